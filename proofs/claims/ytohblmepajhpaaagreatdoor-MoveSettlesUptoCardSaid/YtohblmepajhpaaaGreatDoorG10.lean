/- Texts of the walks, together: Walk: chunk's to. The engine, for a region whose last operations write what the earlier ones have read, while some quiet operations that read no memory (Z) may come anywhere. -/
import Derived.Test.YtohblmepajhpaaaGreatDoorG03
import Derived.Test.YtohblmepajhpaaaGreatDoorG09
set_option maxHeartbeats 8000000
set_option maxRecDepth 100000
open Go.Lib (hid)
namespace Go.Proofs.YtohblmepajhpaaaGreatDoor
open Go.RowKit
theorem aHk {w:World}{B n c i k:Nat}{A:Option Addr}{l:List ByteArray}(h:Rd w B 1 A n c (l.map .string))(hi:i<=k)(hk:k<=n) :
  Rd w B 1 (if c=i then A else A.map (·.add i)) (k-i) (c-i) ((sliceF l i k).map .string)/\(sliceF l i k).length=k-i:=by
 have h1:=h.cut1 hi hk
 rw[<-List.map_take,<-List.map_drop] at h1
 have h2:=h1.len
 rw[List.length_map,Nat.mul_one] at h2
 exact ⟨h1,h2⟩
theorem aTq {l:List Nat}{c:Nat}(u:World)(cs:Array Value)(h:c∈l):Keeps l u (u.setRow c cs):=
 ⟨by simp,fun p hp hl=>World.cell?_of_block (setRow_other u c p.block cs (fun e=>hl (e▸h)))⟩
theorem aAk {w:World}{g k:Nat}{cs:Array Value}{t:TypeId}(h:w.heap[g]? = some (.cells cs t (0,0))):w.frozen? ⟨g,k,none⟩=false:=by
 simp[World.frozen?,h]
theorem aBo {w:World}{g k b o:Nat}{v:Value}(h:b≠g):(w.setCell ⟨g,k,none⟩ v).cell? ⟨b,o,none⟩=w.cell? ⟨b,o,none⟩:=
 World.cell?_setCell_other _ _ _ _ (fun e=>h (by injection e with e1 _ _;exact e1.symm))
theorem aGw {w:World}{g c i j k:Nat}(u v x:Value)(h:c≠g):(((w.setCell ⟨g,i,none⟩ u).setCell ⟨g,j,none⟩ v).setCell ⟨g,k,none⟩ x).heap[c]? = w.heap[c]?:=
 (Below.heap_setCell _ _ _ c h).trans ((Below.heap_setCell _ _ _ c h).trans (Below.heap_setCell _ _ _ c h))
theorem aOx (w:World)(a b c d:Value):Rd (w.alloc (.cells #[a,b,c,d] 143)) (w.alloc (.cells #[a,b,c,d] 143)).heap.size 4 (some ⟨w.heap.size,0,none⟩) 1 1 [a,b,c,d]:=
 ⟨rfl,Nat.le_refl _,fun _=>⟨_,0,rfl,by simp,fun j u hu=>by
  rw[Nat.zero_add,World.cell?,heap_alloc_new]
  simpa using hu⟩⟩
theorem aFl {a:Nat}{l:List Nat}{N:Nat}(h:N<=a):∀b∈a::l,b∈l\/N<=b:=fun b hb=>by
 rcases List.mem_cons.1 hb with rfl | hb
 ·exact .inr h
 exact .inl hb
def PK (w w':World):Prop:=∀(g:Nat) (u v:Value) (fr:Nat×Nat),w.heap[g]? = some (.cells #[u,v] 273 fr)->w'.cell? ⟨g,0,none⟩=some u/\w'.cell? ⟨g,1,none⟩=some v
theorem bHl {w W X:World}{bx c:Nat}{l:List Nat}(hp:∀(g:Nat)(u v:Value)(fr:Nat×Nat),w.heap[g]? = some (.cells #[u,v] 273 fr)->g<bx/\g∉l/\w.cell? ⟨g,0,none⟩=some u/\w.cell? ⟨g,1,none⟩=some v)
  (h1:∀p:Addr,p.block<bx->W.cell? p=w.cell? p) (hbw:bx<=W.heap.size) (hc:W.heap.size<=c) (hk:Keeps (c::l) W X):PK w X:=fun g u v fr hg=>by
 obtain ⟨h2,h3,h4,h5⟩:=hp g u v fr hg
 have hn:g∉c::l:=fun hm=>by
  rcases List.mem_cons.1 hm with e | hm
  ·omega
  exact h3 hm
 exact ⟨(hk.2 ⟨g,0,none⟩ (Nat.lt_of_lt_of_le h2 hbw) hn).trans ((h1 ⟨g,0,none⟩ h2).trans h4),(hk.2 ⟨g,1,none⟩ (Nat.lt_of_lt_of_le h2 hbw) hn).trans ((h1 ⟨g,1,none⟩ h2).trans h5)⟩
theorem aRy {w:World}{B:Nat}{e:TypeId}{k n:Nat}{v:Value}{xs:List Value}(h:w.ownsRow B e k v n xs){g:Nat}(hg:v.ownBlock=some g):∃cur,w.heap[g]? = some (.cells cur e (0,0)):=by
 obtain ⟨h1,h2⟩:=h
 rcases h2 with ⟨rfl,_⟩ | ⟨g',cap,cur,rfl,e2,e3,e4,e5,e6⟩
 ·cases hg
 simp[Value.ownBlock] at hg;subst hg
 exact ⟨cur,by first | exact e3 | exact e2 | exact e4 | exact e5⟩
theorem aBa {l:List Nat} {w w':World}{A:Option Addr}{c:Nat}{xs:List ByteArray}(h:Rd w' w'.heap.size 1 A xs.length c (xs.map .string))(hf:∀a,A=some a->w.heap.size<=a.block)(hl:∀b∈l,b<w.heap.size):RdO w' l A c xs:=
 ⟨h,fun a ha _ hm=>by have:=hf a ha;have:=hl _ hm;omega⟩
theorem all_cons {p:Nat->Prop}{c:Nat}{l:List Nat}(h:p c)(hl:∀b∈l,p b):∀b∈c::l,p b:=fun b hb=>by
 rcases List.mem_cons.1 hb with rfl | hb
 ·exact h
 exact hl b hb
theorem aCk {W:World}(u:World)(h:Below W.heap.size W u):∃c u',c=u.heap.size/\u'=u.alloc (.cells #[.int .i64 0,.slice none 0 0,.slice none 0 0,.slice none 0 0] 143)/\u'.heap[c]? = some (.cells #[.int .i64 0,.slice none 0 0,.slice none 0 0,.slice none 0 0] 143 (0,0))/\(W.heap.size<=c/\c<u'.heap.size)/\Below u.heap.size u u':=
 ⟨_,_,rfl,rfl,heap_alloc_new _ _,⟨h.size,by simp⟩,(Below.refl _ _).alloc (Nat.le_refl _) _⟩
set_option pp.deepTerms true in
set_option pp.maxSteps 1000000 in
theorem bHp {w0 w:World}{tb:Nat}{Ab Ao At:Option Addr}{nb cb no co nt ct b o t i x y:Nat}{base ours theirs:List ByteArray}{L:List KV}
  (hb:Rd w0 w0.heap.size 1 Ab nb cb (base.map .string)) (ho:Rd w0 w0.heap.size 1 Ao no co (ours.map .string)) (ht:Rd w0 w0.heap.size 1 At nt ct (theirs.map .string))
  (hnb:nb<=100000) (hno:no<=100000) (hnt:nt<=100000) (hL:L.length<=1000000)
  (h:TX w0 w tb (.slice Ab nb cb) (.slice Ao no co) (.slice At nt ct) b o t L) (h1:b<=i) (h2:i<=nb) (h3:o<=x) (h4:x<=no) (h5:t<=y) (h6:y<=nt) :
  Calls Tryz.prog 217 #[.pointer (some ⟨tb,0,none⟩),.int .i64 i,.agg #[.int .i64 x,.int .i64 y]] w fun e w'=>e=.returned (.tuple #[])/\TX w0 w' tb (.slice Ab nb cb) (.slice Ao no co) (.slice At nt ct) i x y (L++betweenF (sliceF base b i) (sliceF ours o x) (sliceF theirs t y))/\PK w w':=by
 have hhi:=h.hi
 have hlo:=h.lo
 obtain ⟨out,H,hcells,hown,hne,hK⟩:=h.ex
 have HBEL:=hid h.bel
 have hcb0:=hb.cap
 obtain ⟨hr0,hl0⟩:=aHk hb h1 h2
 obtain ⟨hr1,hl1⟩:=aHk ho h3 h4
 obtain ⟨hr2,hl2⟩:=aHk ht h5 h6
 generalize sliceF base b i=L0 at *
 generalize sliceF ours o x=L1 at *
 generalize sliceF theirs t y=L2 at *
 have HCELLS:=hid hcells
 have HOWN:=hid hown
 have HK:=hid hK
 have HLS:=hid (And.intro hl0 (And.intro hl1 hl2))
 have HR0:=hid hr0
 have HR1:=hid hr1
 have HR2:=hid hr2
 have hcb:=hb.cap
 have hco:=ho.cap
 have hct:=ht.cap
 have HNE:=hid hne
 clear hcells hown hK hl0 hl1 hl2 hr0 hr1 hr2 hb ho ht hne h
 have hw1:Below w.heap.size w (w.alloc (.cells #[.int .i64 x,.int .i64 y] 273)):=(Below.refl _ _).alloc (Nat.le_refl _) _
 have kk:∀k v,(#[Value.slice Ab nb cb,Value.slice Ao no co,Value.slice At nt ct,.int .i64 b,.int .i64 o,.int .i64 t,out]:Array Value)[k]? = some v->(w.alloc (.cells #[.int .i64 x,.int .i64 y] 273)).drew.cell? ⟨tb,k,none⟩=some v:=fun k v hv=>
  (hw1.cell (p:=⟨tb,k,none⟩) hhi).trans (by rw[Lib.cell_of_heap HCELLS.out];exact hv)
 have k0:(w.alloc (.cells #[.int .i64 x,.int .i64 y] 273)).drew.cell? ⟨tb,0,none⟩=some (.slice Ab nb cb):=kk 0 _ rfl
 have k1:(w.alloc (.cells #[.int .i64 x,.int .i64 y] 273)).drew.cell? ⟨tb,1,none⟩=some (.slice Ao no co):=kk 1 _ rfl
 have k2:(w.alloc (.cells #[.int .i64 x,.int .i64 y] 273)).drew.cell? ⟨tb,2,none⟩=some (.slice At nt ct):=kk 2 _ rfl
 have k3:(w.alloc (.cells #[.int .i64 x,.int .i64 y] 273)).drew.cell? ⟨tb,3,none⟩=some (.int .i64 b):=kk 3 _ rfl
 have k4:(w.alloc (.cells #[.int .i64 x,.int .i64 y] 273)).drew.cell? ⟨tb,4,none⟩=some (.int .i64 o):=kk 4 _ rfl
 have k5:(w.alloc (.cells #[.int .i64 x,.int .i64 y] 273)).drew.cell? ⟨tb,5,none⟩=some (.int .i64 t):=kk 5 _ rfl
 have x0:(w.alloc (.cells #[.int .i64 x,.int .i64 y] 273)).drew.cell? ⟨w.heap.size,0,none⟩=some (.int .i64 x):=by
  show (w.alloc (.cells #[.int .i64 x,.int .i64 y] 273)).cell? ⟨w.heap.size,0,none⟩=_
  rw[World.cell?,heap_alloc_new];rfl
 have x1:(w.alloc (.cells #[.int .i64 x,.int .i64 y] 273)).drew.cell? ⟨w.heap.size,1,none⟩=some (.int .i64 y):=by
  show (w.alloc (.cells #[.int .i64 x,.int .i64 y] 273)).cell? ⟨w.heap.size,1,none⟩=_
  rw[World.cell?,heap_alloc_new];rfl
 clear kk
 have hbx:w.heap.size<(w.alloc (.cells #[.int .i64 x,.int .i64 y] 273)).drew.heap.size:=by show _<(w.alloc _).heap.size;simp
 have HW1:=hid hw1.drew
 clear hw1
 have hhi2:tb<(w.alloc (.cells #[.int .i64 x,.int .i64 y] 273)).drew.heap.size:=by omega
 have HLT:Hid (∀b∈tb::obs out,b<(w.alloc (.cells #[.int .i64 x,.int .i64 y] 273)).drew.heap.size):=by
  refine all_cons hhi2 (fun b hb=>?_)
  have:=(HOWN.out.lt b (aFr hb)).2
  omega
 have hiK:(Tryz.prog.info? 143).map (·.size)=some 4:=by kernel_rfl
 go_enter Tryz.func217,Tryz.ntmps217
 go_wp2
 rename_i Kc hKc
 generalize (w.alloc (.cells #[.int .i64 x,.int .i64 y] 273))=W0 at *
 have HC0:Hid (∀u,Below W0.drew.heap.size W0.drew u->Calls Tryz.prog 260 #[.slice (if cb=b then Ab else Ab.map (·.add b)) (i-b) (cb-b)] u (FreshS L0 u)):=fun u hu=>by
  have hb:=HBEL.out.trans ((HW1.out.trans (hu.mono HW1.out.size)).mono HBEL.out.size)
  have:=HR0.out.to hb hb.size
  rw[<-HLS.out.1] at this ⊢
  exact aGk (by have:=HLS.out.1;omega) this
 have HC1:Hid (∀u,Below W0.drew.heap.size W0.drew u->Calls Tryz.prog 260 #[.slice (if co=o then Ao else Ao.map (·.add o)) (x-o) (co-o)] u (FreshS L1 u)):=fun u hu=>by
  have hb:=HBEL.out.trans ((HW1.out.trans (hu.mono HW1.out.size)).mono HBEL.out.size)
  have:=HR1.out.to hb hb.size
  rw[<-HLS.out.2.1] at this ⊢
  exact aGk (by have:=HLS.out.2.1;omega) this
 have HC2:Hid (∀u,Below W0.drew.heap.size W0.drew u->Calls Tryz.prog 260 #[.slice (if ct=t then At else At.map (·.add t)) (y-t) (ct-t)] u (FreshS L2 u)):=fun u hu=>by
  have hb:=HBEL.out.trans ((HW1.out.trans (hu.mono HW1.out.size)).mono HBEL.out.size)
  have:=HR2.out.to hb hb.size
  rw[<-HLS.out.2.2] at this ⊢
  exact aGk (by have:=HLS.out.2.2;omega) this
 have HTW:=hid ((HW1.out.block tb hhi).trans HCELLS.out)
 have HBT:Hid (w.heap.size≠tb):=hid (Nat.ne_of_gt hhi)
 generalize hWd:W0.drew=W at *
 have HBW:=hid (HBEL.out.trans (HW1.out.mono HBEL.out.size))
 have HOW0:=hid (aAg HOWN.out HW1.out)
 have HKW:=hid (KIns.keep (Keeps.of_below HW1.out) HK.out)
 have HWK:Hid (∀p:Addr,p.block<w.heap.size->W.cell? p=w.cell? p):=hid (fun p hp=>HW1.out.cell hp)
 have HBXW:Hid (w.heap.size<=W.heap.size):=hid HW1.out.size
 have HPL:Hid (∀(g:Nat) (u v:Value) (fr:Nat×Nat),w.heap[g]? = some (.cells #[u,v] 273 fr)->g<w.heap.size/\g∉tb::obs out/\w.cell? ⟨g,0,none⟩=some u/\w.cell? ⟨g,1,none⟩=some v):=hid (fun g u v fr hg=>by
  refine ⟨?_,fun hm=>?_,by rw[Lib.cell_of_heap hg];rfl,by rw[Lib.cell_of_heap hg];rfl⟩
  ·rcases Nat.lt_or_ge g w.heap.size with h2 | h2
   ·exact h2
   rw[Array.getElem?_eq_none h2] at hg;cases hg
  rcases List.mem_cons.1 hm with rfl | hm
  ·have h3:=HCELLS.out
   rw[hg] at h3
   injection h3 with h3;injection h3 with _ h4 _
   exact absurd h4 (by decide)
  obtain ⟨cur,h3⟩:=aRy HOWN.out (aFr hm)
  rw[hg] at h3
  injection h3 with h3;injection h3 with _ h4 _
  exact absurd h4 (by decide))
 generalize w.heap.size=bx at *
 refine aAv (fun u=>Below W.heap.size W u) (.q 0 (.q 1 (.q 2 (.q 3 (.q 4 (.q 5 (.q 6 (.q 7 (.q 8 (.q 9 (.q 11 (.q 12 (.q 13 (.q 14 (.q 15 (.q 17 (.q 18 (.q 21 (.q 22 (.q 23 (.q 24 (.q 25 (.q 27 (.q 28 (.two 10 (.two 16 (.q 19 (.two 20 (.two 26 (.q 29 (.two 30 (.b 31 (.one 32 (.one 33 .leaf))) 32 (.one 30 (.b 31 (.one 33 .leaf))))) 32 (.one 26 (.q 29 (.one 30 (.b 31 (.one 33 .leaf)))))) 32 (.one 20 (.one 26 (.q 29 (.one 30 (.b 31 (.one 33 .leaf)))))))) 32 (.one 16 (.q 19 (.one 20 (.one 26 (.q 29 (.one 30 (.b 31 (.one 33 .leaf))))))))) 32 (.one 10 (.one 16 (.q 19 (.one 20 (.one 26 (.q 29 (.one 30 (.b 31 (.one 33 .leaf)))))))))))))))))))))))))))))))))) mixed (by kernel_rfl) (show Below W.heap.size W W0.drew by rw[hWd];exact Below.refl _ _) ?_
 intro Tp M Q hT hT' hM hQ
 have m0:=hM ⟨tb,0,none⟩ _ fun w' hw=>(hw.cell (p:=⟨tb,0,none⟩) hhi2).trans k0
 have m1:=hM ⟨tb,1,none⟩ _ fun w' hw=>(hw.cell (p:=⟨tb,1,none⟩) hhi2).trans k1
 have m2:=hM ⟨tb,2,none⟩ _ fun w' hw=>(hw.cell (p:=⟨tb,2,none⟩) hhi2).trans k2
 have m3:=hM ⟨tb,3,none⟩ _ fun w' hw=>(hw.cell (p:=⟨tb,3,none⟩) hhi2).trans k3
 have m4:=hM ⟨bx,0,none⟩ _ fun w' hw=>(hw.cell (p:=⟨bx,0,none⟩) hbx).trans x0
 have m5:=hM ⟨bx,1,none⟩ _ fun w' hw=>(hw.cell (p:=⟨bx,1,none⟩) hbx).trans x1
 clear hM
 rw[hWd]
 refine aDy ?_
 intro O hO
 have t0:=hO true 0
 have t1:=hO true 1
 have t2:=hO true 2
 have t3:=hO true 3
 have t4:=hO true 4
 have t5:=hO true 5
 have t6:=hO true 6
 have t7:=hO true 7
 have t8:=hO true 8
 have t9:=hO true 9
 have t11:=hO true 11
 have t12:=hO true 12
 have t13:=hO true 13
 have t14:=hO true 14
 have t15:=hO true 15
 have t17:=hO true 17
 have t18:=hO true 18
 have t21:=hO true 21
 have t22:=hO true 22
 have t23:=hO true 23
 have t24:=hO true 24
 have t25:=hO true 25
 have t27:=hO true 27
 have t28:=hO true 28
 have t19:=hO true 19
 have t29:=hO true 29
 have e10:=hO false 10
 have e16:=hO false 16
 have e20:=hO false 20
 have e26:=hO false 26
 have e30:=hO false 30
 have e32:=hO false 32
 have e33:=hO false 33
 have e31:=hO true 31
 simp only[qcmp] at t0 t1 t2 t3 t4 t5 t6 t7 t8 t9 t11 t12 t13 t14 t15 t17 t18 t21 t22 t23 t24 t25 t27 t28 t19 t29 e10 e16 e20 e26 e30 e31 e32 e33
 clear hO
 simp (maxSteps:=9^7) only[↓wt_q,↓aBb,t0,t1,t2,t3,t4,t5,t6,t7,t8,t9,t11,t12,t13,t14,t15,t17,t18,t21,t22,t23,t24,t25,t27,t28,e10,e32,↓qpre,aAb,aAe,aAc,m0,m1,m2,m3,m4,m5]
 clear t0 t1 t2 t3 t4 t5 t6 t7 t8 t9 t11 t12 t13 t14 t15 t17 t18 t21 t22 t23 t24 t25 t27 t28 m0 m1 m2 m3 m4 m5
 have HS:=hid (show Below W.heap.size W W from Below.refl _ _)
 refine ⟨⟨by omega,by omega⟩,?_⟩
 simp only[sliced,Nat.mul_one]
 have LEAF:∀(u:World) (c:Nat) (A0:Option Addr) (c0:Nat) (A1:Option Addr) (c1:Nat) (A2:Option Addr) (c2:Nat),Below W.heap.size W u->u.heap[c]? = some (.cells #[.int .i64 0,.slice none 0 0,.slice none 0 0,.slice none 0 0] 143 (0,0))->(W.heap.size<=c/\c<u.heap.size)->
   RdO u (c::tb::obs out) A0 c0 L0->RdO u (c::tb::obs out) A1 c1 L1->RdO u (c::tb::obs out) A2 c2 L2->
   wt Tryz.prog Tp M O Q PT.leaf ⟨#[Value.pointer (some ⟨tb,0,none⟩),Value.int IntKind.i64 ↑i,Value.agg #[Value.int IntKind.i64 ↑x,Value.int IntKind.i64 ↑y],undef,undef,Value.pointer (some ⟨bx,0,none⟩),Value.pointer (some ⟨c,0,none⟩),Value.pointer (some ⟨tb,0,none⟩),Value.pointer (some ⟨tb,0,none⟩),Value.pointer (some ⟨tb,0,none⟩),Value.slice Ab nb cb,Value.pointer (some ⟨tb,0,none⟩),Value.pointer (some ⟨tb,0,none⟩),Value.pointer (some ⟨tb,3,none⟩),Value.int IntKind.i64 ↑b,Value.int IntKind.i64 ↑i,Value.slice (if cb=b then Ab else Option.map (fun x=>x.add b) Ab) (i-b) (cb-b),Value.slice A0 L0.length c0,Value.pointer (some ⟨tb,0,none⟩),Value.pointer (some ⟨tb,0,none⟩),Value.pointer (some ⟨tb,1,none⟩),Value.slice Ao no co,Value.pointer (some ⟨tb,0,none⟩),Value.int IntKind.i64 ↑o,Value.pointer (some ⟨bx,0,none⟩),Value.int IntKind.i64 ↑x,Value.slice (if co=o then Ao else Option.map (fun x=>x.add o) Ao) (x-o) (co-o),Value.slice A1 L1.length c1,Value.pointer (some ⟨tb,0,none⟩),Value.pointer (some ⟨tb,0,none⟩),Value.pointer (some ⟨tb,2,none⟩),Value.slice At nt ct,Value.pointer (some ⟨tb,0,none⟩),Value.int IntKind.i64 ↑t,Value.pointer (some ⟨bx,1,none⟩),Value.int IntKind.i64 ↑y,Value.slice (if ct=t then At else Option.map (fun x=>x.add t) At) (y-t) (ct-t),Value.slice A2 L2.length c2,Value.agg #[Value.int IntKind.i64 0,Value.slice A0 L0.length c0,Value.slice A1 L1.length c1,Value.slice A2 L2.length c2],undef,undef,undef,undef,undef,undef,undef,undef,undef,undef,undef,undef,undef,undef,undef,undef,undef,undef,undef,undef,undef,undef,undef,undef,undef,undef,undef,undef,undef,undef,undef,undef,undef],[]⟩ (u.setRow c #[.int .i64 0,.slice A0 L0.length c0,.slice A1 L1.length c1,.slice A2 L2.length c2]):=by
  clear hT hT' t19 t29 e10 e16 e20 e26 e30 e31 e32 e33
  intro u c A0 c0 A1 c1 A2 c2 hS hcb hcl hx0 hx1 hx2
  refine hQ _ _ ?_
  clear hQ HS
  generalize (if cb=b then Ab else Option.map (fun x=>x.add b) Ab)=Ab1
  generalize (if co=o then Ao else Option.map (fun x=>x.add o) Ao)=Ao1
  generalize (if ct=t then At else Option.map (fun x=>x.add t) At)=At1
  have HU:=hid (aAj (cs:=#[.int .i64 0,.slice A0 L0.length c0,.slice A1 L1.length c1,.slice A2 L2.length c2]) hS hcl.1)
  have HKU:=hid (aTq (l:=c::tb::obs out) (c:=c) u #[.int .i64 0,.slice A0 L0.length c0,.slice A1 L1.length c1,.slice A2 L2.length c2] (by simp))
  have HX0:=hid (hx0.keep HKU.out)
  have HX1:=hid (hx1.keep HKU.out)
  have HX2:=hid (hx2.keep HKU.out)
  have HCC:=hid (setRow_heap u c _ #[.int .i64 0,.slice A0 L0.length c0,.slice A1 L1.length c1,.slice A2 L2.length c2] _ _ hcb)
  have hcu:c<(u.setRow c #[.int .i64 0,.slice A0 L0.length c0,.slice A1 L1.length c1,.slice A2 L2.length c2]).heap.size:=by simpa using hcl.2
  have hcl1:=hcl.1
  have HOU:=hid (aAg HOW0.out HU.out)
  have HKK:=hid (KIns.keep (Keeps.of_below (HU.out)) HKW.out)
  clear hS hcb hcl hx0 hx1 hx2 HKU
  generalize u.setRow c #[.int .i64 0,.slice A0 L0.length c0,.slice A1 L1.length c1,.slice A2 L2.length c2]=U at *
  have HT:=hid ((HU.out.block tb hhi2).trans HTW.out)
  have HKP:=hid (Keeps.of_below (l:=c::tb::obs out) HU.out)
  have hcx0:=(HU.out.cell (p:=⟨bx,0,none⟩) hbx).trans x0
  have hcx1:=(HU.out.cell (p:=⟨bx,1,none⟩) hbx).trans x1
  have hne1:tb≠c:=by omega
  have hne2:bx≠tb:=HBT.out
  go_wp2
  refine aAh (fun w'=>w'.cell? ⟨bx,0,none⟩=some (.int .i64 x)/\w'.cell? ⟨bx,1,none⟩=some (.int .i64 y)) [(true,0),(true,1),(true,2),(true,3),(true,4),(true,5),(false,6),(true,7),(true,8),(false,9)] mixed (by kernel_rfl) ⟨hcx0,hcx1⟩ ?_
  intro Tp M Q hT hT' hM hQ
  have m0:=hM ⟨bx,0,none⟩ _ fun w' hw=>hw.1
  have m1:=hM ⟨bx,1,none⟩ _ fun w' hw=>hw.2
  clear hM
  simp only[qcmp]
  simp (maxSteps:=9^7) only[↓qpre,aAb,aAe,aAc,m0,m1]
  clear m0 m1
  have HT2:=hid (heap_setCell_same U.drew tb 3 _ _ (.int .i64 i) HT.out)
  have HT3:=hid (heap_setCell_same _ tb 4 _ _ (.int .i64 x) HT2.out)
  have HT4:=hid (heap_setCell_same _ tb 5 _ _ (.int .i64 y) HT3.out)
  have hc3:(U.drew.cell? ⟨tb,3,none⟩).isSome=true:=by
   show (U.cell? ⟨tb,3,none⟩).isSome=true
   rw[Lib.cell_of_heap HT.out];rfl
  have hf3:=aAk (k:=3) HT.out
  have y0:(U.drew.setCell ⟨tb,3,none⟩ (.int .i64 i)).cell? ⟨bx,0,none⟩=some (.int .i64 x):=(aBo (by exact hne2)).trans hcx0
  have y1:(U.drew.setCell ⟨tb,3,none⟩ (.int .i64 i)).cell? ⟨bx,1,none⟩=some (.int .i64 y):=(aBo (by exact hne2)).trans hcx1
  refine aBi (v:=.int .i64 i) (b:=tb) (o:=3) (by kernel_rfl) rfl rfl hc3 hf3 rfl ⟨hT _ ⟨y0,y1⟩,?_⟩
  simp (maxSteps:=9^7) only[↓qpre,aAb,aAe,aAc]
  refine aNo (u0:=.int .i64 x) (u1:=.int .i64 y) (b:=tb) (o:=4) (by kernel_rfl) rfl rfl (by rw[Lib.cell_of_heap HT2.out];rfl) (by rw[Lib.cell_of_heap HT2.out];rfl) (aAk HT2.out) (aAk HT2.out) rfl rfl ⟨hT _ ⟨?_,?_⟩,?_⟩
  ·exact (aBo (by exact hne2)).trans ((aBo (by exact hne2)).trans y0)
  ·exact (aBo (by exact hne2)).trans ((aBo (by exact hne2)).trans y1)
  simp (maxSteps:=9^7) only[aAb]
  refine hQ _ _ ?_
  have HG:Hid (Keeps (c::tb::obs out) U (((U.drew.setCell ⟨tb,3,none⟩ (.int .i64 i)).setCell ⟨tb,4,none⟩ (.int .i64 x)).setCell ⟨tb,5,none⟩ (.int .i64 y))):=
   hid (((Keeps.refl _ U).drew.trans (Keeps.grown (aAq U.drew tb 3 (.int .i64 i)) (by simp))).trans ((Keeps.grown (aAq _ tb 4 (.int .i64 x)) (by simp)).trans (Keeps.grown (aAq _ tb 5 (.int .i64 y)) (by simp))))
  have HB2:=hid ((((HBW.out.trans (HU.out.mono HBW.out.size)).drew.setCell (p:=⟨tb,3,none⟩) hlo (.int .i64 i)).setCell (p:=⟨tb,4,none⟩) hlo (.int .i64 x)).setCell (p:=⟨tb,5,none⟩) hlo (.int .i64 y))
  have HCC2:=hid ((aGw (w:=U.drew) (g:=tb) (c:=c) (i:=3) (j:=4) (k:=5) (.int .i64 i) (.int .i64 x) (.int .i64 y) (fun e=>hne1 e.symm)).trans HCC.out)
  have HOW:=hid (ownsRow_setCell_other (ownsRow_setCell_other (ownsRow_setCell_other HOU.out.drew (a:=⟨tb,3,none⟩) HNE.out (.int .i64 i)) (a:=⟨tb,4,none⟩) HNE.out (.int .i64 x)) (a:=⟨tb,5,none⟩) HNE.out (.int .i64 y))
  have HTV:Hid ((((U.drew.setCell ⟨tb,3,none⟩ (.int .i64 i)).setCell ⟨tb,4,none⟩ (.int .i64 x)).setCell ⟨tb,5,none⟩ (.int .i64 y)).heap[tb]? = some (.cells #[.slice Ab nb cb,.slice Ao no co,.slice At nt ct,.int .i64 i,.int .i64 x,.int .i64 y,out] 278 (0,0))):=by
   have:=HT4.out
   unfold Hid
   simpa using this
  have HKV:=hid (KIns.keep HG.out (KIns.keep (Keeps.of_below HU.out) (KIns.less (m:=c::tb::obs out) (fun b hb=>by
   rcases List.mem_cons.1 hb with h | h
   ·exact .inr (by rw[h];exact hcl1)
   exact .inl h) HKW.out)))
  have HKP:=hid (HKP.out.trans HG.out)
  have HX0:=hid (HX0.out.keep HG.out)
  have HX1:=hid (HX1.out.keep HG.out)
  have HX2:=hid (HX2.out.keep HG.out)
  have hcV:=Nat.lt_of_lt_of_le hcu HG.out.1
  have htV:=Nat.lt_of_lt_of_le (Nat.lt_of_lt_of_le hhi2 HU.out.size) HG.out.1
  clear HT2 HT3 HT4 HG HT HCC hT hT' hcx0 hcx1 y0 y1 HOU HKK hc3 hf3 hcu
  generalize (((U.drew.setCell ⟨tb,3,none⟩ (.int .i64 i)).setCell ⟨tb,4,none⟩ (.int .i64 x)).setCell ⟨tb,5,none⟩ (.int .i64 y))=V at *
  have cc0:V.cell? ⟨c,0,none⟩=some (.int .i64 0):=by rw[Lib.cell_of_heap HCC2.out];rfl
  have cc1:V.cell? ⟨c,1,none⟩=some (.slice A0 L0.length c0):=by rw[Lib.cell_of_heap HCC2.out];rfl
  have cc2:V.cell? ⟨c,2,none⟩=some (.slice A1 L1.length c1):=by rw[Lib.cell_of_heap HCC2.out];rfl
  have cc3:V.cell? ⟨c,3,none⟩=some (.slice A2 L2.length c2):=by rw[Lib.cell_of_heap HCC2.out];rfl
  have hl0:L0.length<=100000:=by have:=HLS.out.1;omega
  have hl1:L1.length<=100000:=by have:=HLS.out.2.1;omega
  have hl2:L2.length<=100000:=by have:=HLS.out.2.2;omega
  have HBT2:=hid (show betweenF L0 L1 L2=if L0.length+L1.length+L2.length=0 then [] else [⟨kindF L0 L1 L2,L0,L1,L2⟩] from rfl)
  by_cases hz:L0.length+L1.length+L2.length=0
  ·have HN:=hid (HBT2.out.trans (if_pos hz))
   clear HBT2
   go_wp2
   refine bodyPost_end (results_none rfl _ _ _) rfl ?_
   rw[HN.out,List.append_nil]
   exact ⟨rfl,⟨⟨out,H,HTV.out,HOW.out,HNE.out,HKV.out.less (fun b hb=>.inl (List.mem_cons_of_mem _ hb))⟩,hlo,HB2.out⟩,bHl HPL.out HWK.out HBXW.out hcl1 HKP.out⟩
  have HN:=hid (HBT2.out.trans (if_neg hz))
  clear HBT2
  have hkd:=bGg (K:=0) (by omega) (by omega) (by omega) HX0.out.1 HX1.out.1 HX2.out.1
  generalize kindF L0 L1 L2=F at *
  go_wp2_with fail
  refine hkd.mono ?_
  rintro e V2 ⟨rfl,hb⟩
  clear hkd
  have HKP:=hid (HKP.out.trans (Keeps.of_below hb))
  have HTV:=hid ((hb.block tb htV).trans HTV.out)
  have HCC:=hid ((hb.block c hcV).trans HCC2.out)
  have HX0:=hid (HX0.out.keep (Keeps.of_below hb))
  have HX1:=hid (HX1.out.keep (Keeps.of_below hb))
  have HX2:=hid (HX2.out.keep (Keeps.of_below hb))
  have HKV:=hid (HKV.out.keep (Keeps.of_below hb))
  have HNC:Hid (out.ownBlock≠some c):=fun e=>by have:=(HOW0.out.lt c e).2;omega
  have HOW:=hid (aAg HOW.out hb)
  have HB2:=hid (HB2.out.trans (hb.mono HB2.out.size))
  have htV:=Nat.lt_of_lt_of_le htV hb.size
  have hcV:=Nat.lt_of_lt_of_le hcV hb.size
  have hcw:w0.heap.size<=c:=Nat.le_trans HBW.out.size hcl1
  clear cc0 cc1 cc2 cc3 HCC2 hb
  have cc0:V2.cell? ⟨c,0,none⟩=some (.int .i64 0):=by rw[Lib.cell_of_heap HCC.out];rfl
  have cc1:V2.cell? ⟨c,1,none⟩=some (.slice A0 L0.length c0):=by rw[Lib.cell_of_heap HCC.out];rfl
  have cc2:V2.cell? ⟨c,2,none⟩=some (.slice A1 L1.length c1):=by rw[Lib.cell_of_heap HCC.out];rfl
  have cc3:V2.cell? ⟨c,3,none⟩=some (.slice A2 L2.length c2):=by rw[Lib.cell_of_heap HCC.out];rfl
  have cf0:V2.frozen? ⟨c,0,none⟩=false:=aAk HCC.out
  go_wp2
  clear cc0 cc1 cc2 cc3 cf0
  have HCC3:Hid ((V2.setCell ⟨c,0,none⟩ (.int .i64 F)).heap[c]? = some (.cells #[.int .i64 F,.slice A0 L0.length c0,.slice A1 L1.length c1,.slice A2 L2.length c2] 143 (0,0))):=by
   have:=heap_setCell_same V2 c 0 _ _ (.int .i64 F) HCC.out
   unfold Hid
   simpa using this
  have HTV:=hid ((Below.heap_setCell V2 ⟨c,0,none⟩ (.int .i64 F) tb (by exact hne1)).trans HTV.out)
  have HGc:=hid (Keeps.grown (l:=c::tb::obs out) (aAq V2 c 0 (.int .i64 F)) (by simp))
  have HKP:=hid (HKP.out.trans HGc.out)
  have HX0:=hid (HX0.out.keep HGc.out)
  have HX1:=hid (HX1.out.keep HGc.out)
  have HX2:=hid (HX2.out.keep HGc.out)
  have HKV:=hid (HKV.out.keep HGc.out)
  have HOW:=hid (ownsRow_setCell_other HOW.out (a:=⟨c,0,none⟩) HNC.out (.int .i64 F))
  have HB2:=hid (HB2.out.setCell (p:=⟨c,0,none⟩) hcw (.int .i64 F))
  have htV:=Nat.lt_of_lt_of_le htV HGc.out.1
  have hcV:=Nat.lt_of_lt_of_le hcV HGc.out.1
  clear HCC HGc
  generalize V2.setCell ⟨c,0,none⟩ (.int .i64 F)=V3 at *
  refine aBf (fun w'=>w'.heap[tb]? = some (.cells #[.slice Ab nb cb,.slice Ao no co,.slice At nt ct,.int .i64 i,.int .i64 x,.int .i64 y,out] 278 (0,0))/\w'.heap[c]? = some (.cells #[.int .i64 F,.slice A0 L0.length c0,.slice A1 L1.length c1,.slice A2 L2.length c2] 143 (0,0)))
   [(true,0),(true,1),(true,2),(true,3),(true,4),(true,5),(false,6),(false,7),(true,8),(true,9)] [10] mixed (by kernel_rfl) ⟨HTV.out,HCC3.out⟩ ?_
  intro Tp M Q Q2 hT hT' hM hQ hQ2
  have m0:M ⟨tb,6,none⟩=some out:=hM _ _ fun w' hw=>by rw[Lib.cell_of_heap hw.1];rfl
  have m1:M ⟨c,0,none⟩=some (.int .i64 F):=hM _ _ fun w' hw=>by rw[Lib.cell_of_heap hw.2];rfl
  have m2:M ⟨c,1,none⟩=some (.slice A0 L0.length c0):=hM _ _ fun w' hw=>by rw[Lib.cell_of_heap hw.2];rfl
  have m3:M ⟨c,2,none⟩=some (.slice A1 L1.length c1):=hM _ _ fun w' hw=>by rw[Lib.cell_of_heap hw.2];rfl
  have m4:M ⟨c,3,none⟩=some (.slice A2 L2.length c2):=hM _ _ fun w' hw=>by rw[Lib.cell_of_heap hw.2];rfl
  clear hM
  simp only[qcmp]
  simp (maxSteps:=9^7) only[↓qpre,aAb,aAe,aAc,m0,m1,m2,m3,m4]
  clear m0 m1 m2 m3 m4
  have hba:Below V3.heap.size V3 (V3.drew.alloc (.cells #[.int .i64 F,.slice A0 L0.length c0,.slice A1 L1.length c1,.slice A2 L2.length c2] 143)):=(Below.refl _ _).drew.alloc (Nat.le_refl _) _
  have HKP:=hid (HKP.out.trans (Keeps.of_below hba))
  have HTV:=hid ((hba.block tb htV).trans HTV.out)
  have HCC4:=hid ((hba.block c hcV).trans HCC3.out)
  refine T.eff_lits (T.run_lits4 aKw _ _ _ _ _) rfl ⟨hT _ ⟨HTV.out,HCC4.out⟩,?_⟩
  simp (maxSteps:=9^7) only[aAb,aAc]
  have HLIT:=hid (aOx V3.drew (.int .i64 F) (.slice A0 L0.length c0) (.slice A1 L1.length c1) (.slice A2 L2.length c2))
  have HOW4:=hid (aAg HOW.out hba)
  have HB4:=hid (HB2.out.trans (hba.mono HB2.out.size))
  have HX0:=hid ((HX0.out.keep (Keeps.of_below hba)).less (m:=(V3.drew.alloc (.cells #[.int .i64 F,.slice A0 L0.length c0,.slice A1 L1.length c1,.slice A2 L2.length c2] 143)).heap.size::c::tb::obs out) (aFl (Nat.le_refl _)))
  have HX1:=hid ((HX1.out.keep (Keeps.of_below hba)).less (m:=(V3.drew.alloc (.cells #[.int .i64 F,.slice A0 L0.length c0,.slice A1 L1.length c1,.slice A2 L2.length c2] 143)).heap.size::c::tb::obs out) (aFl (Nat.le_refl _)))
  have HX2:=hid ((HX2.out.keep (Keeps.of_below hba)).less (m:=(V3.drew.alloc (.cells #[.int .i64 F,.slice A0 L0.length c0,.slice A1 L1.length c1,.slice A2 L2.length c2] 143)).heap.size::c::tb::obs out) (aFl (Nat.le_refl _)))
  have HKV:=hid ((HKV.out.keep (Keeps.of_below hba)).less (m:=(V3.drew.alloc (.cells #[.int .i64 F,.slice A0 L0.length c0,.slice A1 L1.length c1,.slice A2 L2.length c2] 143)).heap.size::c::tb::obs out) (aFl (Nat.le_refl _)))
  have htV:=Nat.lt_of_lt_of_le htV hba.size
  have hcV:=Nat.lt_of_lt_of_le hcV hba.size
  clear HCC3 HOW HB2 hba
  have hVd:V3.drew.heap.size=V3.heap.size:=rfl
  generalize V3.drew.alloc (.cells #[.int .i64 F,.slice A0 L0.length c0,.slice A1 L1.length c1,.slice A2 L2.length c2] 143)=V4 at *
  refine aAw aKw (base:=w0.heap.size) (n:=L.length) rfl rfl HOW4.out HLIT.out (by intro u hu;simp at hu;rcases hu with rfl | rfl | rfl | rfl<;>rfl) (by unfold maxLen;omega) (by omega) HB4.out.size ?_
  intro v7 V5 ho7 hg7 hv7
  obtain ⟨A7,c7,rfl,hc7⟩:=aAd ho7
  have htb5:V5.heap[tb]? = V4.heap[tb]?:=hg7.block tb htV (fun e=>HNE.out e.symm)
  have hcb5:V5.heap[c]? = V4.heap[c]?:=hg7.block c hcV (fun e=>HNC.out e.symm)
  have HTV:=hid (htb5.trans HTV.out)
  refine ⟨hT _ ⟨HTV.out,hcb5.trans HCC4.out⟩,?_⟩
  simp (maxSteps:=9^7) only[↓qpre,aAb,aAe,aAc]
  refine hQ _ _ ?_
  simp only[lates,List.map,qcmp]
  simp (maxSteps:=9^7) only[aAb]
  refine aBi (v:=.slice A7 (L.length+1) c7) (b:=tb) (o:=6) (by kernel_rfl) rfl rfl (by rw[Lib.cell_of_heap HTV.out];rfl) (aAk HTV.out) rfl ⟨trivial,?_⟩
  simp (maxSteps:=9^7) only[aAb]
  refine hQ2 _ _ ?_
  have HTV6:Hid ((V5.setCell ⟨tb,6,none⟩ (.slice A7 (L.length+1) c7)).heap[tb]? = some (.cells #[.slice Ab nb cb,.slice Ao no co,.slice At nt ct,.int .i64 i,.int .i64 x,.int .i64 y,.slice A7 (L.length+1) c7] 278 (0,0))):=by
   have:=heap_setCell_same V5 tb 6 _ _ (.slice A7 (L.length+1) c7) HTV.out
   unfold Hid
   simpa using this
  have HG6:=hid ((Keeps.grown (l:=V4.heap.size::c::tb::obs out) hg7 (fun g hg=>List.mem_cons_of_mem _ (List.mem_cons_of_mem _ (List.mem_cons_of_mem _ (aEq hg))))).trans (Keeps.grown (aAq V5 tb 6 (.slice A7 (L.length+1) c7)) (by simp)))
  have HKP:=hid (HKP.out.trans ((Keeps.grown (l:=c::tb::obs out) hg7 (fun g hg=>List.mem_cons_of_mem _ (List.mem_cons_of_mem _ (aEq hg)))).trans (Keeps.grown (aAq V5 tb 6 (.slice A7 (L.length+1) c7)) (by simp))))
  have HN7:Hid ((Value.slice A7 (L.length+1) c7).ownBlock≠some tb):=by
   rcases hv7 with h | h
   ·rw[h];exact HNE.out
   rw[h];intro e;injection e with e;omega
  have HO7:=hid (ownsRow_setCell_other ho7 (a:=⟨tb,6,none⟩) HN7.out (.slice A7 (L.length+1) c7))
  have HB6:=hid ((HB4.out.grown hg7 HB4.out.size (fun g hg=>(HOW4.out.lt g hg).1)).setCell (p:=⟨tb,6,none⟩) hlo (.slice A7 (L.length+1) c7))
  have HSUB:Hid (∀b∈tb::obs (.slice A7 (L.length+1) c7),b∈V4.heap.size::c::tb::obs out):=by
   refine all_cons (by simp) (fun b hb=>?_)
   rcases hv7 with h | h
   ·have:=aFr hb;rw[h] at this;exact List.mem_cons_of_mem _ (List.mem_cons_of_mem _ (List.mem_cons_of_mem _ (aEq this)))
   have:=aFr hb;rw[h] at this;injection this with this;simp[this]
  have HKF:=hid (((KIns.snoc (k:=⟨F,L0,L1,L2⟩) HKV.out ⟨A0,c0,A1,c1,A2,c2,rfl,HX0.out,HX1.out,HX2.out⟩).keep HG6.out).less (fun b hb=>.inl (HSUB.out b hb)))
  clear hQ hQ2 hT hT' HX0 HX1 HX2 HKV HG6 HSUB ho7 hg7 hv7 HOW4 HLIT HTV HCC4 htb5 hcb5
  go_wp2
  refine bodyPost_end (results_none rfl _ _ _) rfl ?_
  refine ⟨rfl,⟨⟨_,H++[[.int .i64 F,.slice A0 L0.length c0,.slice A1 L1.length c1,.slice A2 L2.length c2]],HTV6.out,?_,HN7.out,?_⟩,hlo,HB6.out⟩,bHl HPL.out HWK.out HBXW.out hcl1 HKP.out⟩
  ·rw[HN.out,List.length_append,List.flatten_append]
   exact HO7.out
  rw[HN.out]
  exact HKF.out
 refine ⟨?_,?_⟩
 ·refine aAi (by kernel_rfl) (HC0.out _ HS.out) rfl rfl ?_
  rintro e u1 ⟨A0,c0,rfl,hr,hf,hb⟩
  have HX0:=hid (aBa (l:=(tb::obs out)) hr hf (fun b hb=>Nat.lt_of_lt_of_le (HLT.out b hb) HS.out.size))
  have HS:=hid (HS.out.trans (hb.mono HS.out.size))
  clear hr hf hb
  refine ⟨_,rfl,hT _ HS.out,?_⟩
  simp (maxSteps:=9^7) only[↓aBb,e16,e32,aAb,aAc]
  refine ⟨?_,?_⟩
  ·refine aAi (by kernel_rfl) (aLg ((HS.out.cell (p:=⟨tb,4,none⟩) hhi2).trans k4)) rfl rfl ?_
   rintro e u2 ⟨rfl,rfl⟩
   refine ⟨_,rfl,hT _ HS.out,?_⟩
   simp (maxSteps:=9^7) only[↓wt_q,↓aBb,t19,e20,e32,↓qpre,aAb,aAe,aAc]
   refine ⟨⟨by omega,by omega⟩,?_⟩
   simp only[sliced,Nat.mul_one]
   refine ⟨?_,?_⟩
   ·refine aAi (by kernel_rfl) (HC1.out _ HS.out) rfl rfl ?_
    rintro e u3 ⟨A1,c1,rfl,hr,hf,hb⟩
    have HX1:=hid (aBa (l:=(tb::obs out)) hr hf (fun b hb=>Nat.lt_of_lt_of_le (HLT.out b hb) HS.out.size))
    have HX0:=hid (HX0.out.keep (Keeps.of_below hb))
    have HS:=hid (HS.out.trans (hb.mono HS.out.size))
    clear hr hf hb
    refine ⟨_,rfl,hT _ HS.out,?_⟩
    simp (maxSteps:=9^7) only[↓aBb,e26,e32,aAb,aAc]
    refine ⟨?_,?_⟩
    ·refine aAi (by kernel_rfl) (aDi ((HS.out.cell (p:=⟨tb,5,none⟩) hhi2).trans k5)) rfl rfl ?_
     rintro e u4 ⟨rfl,rfl⟩
     refine ⟨_,rfl,hT _ HS.out,?_⟩
     simp (maxSteps:=9^7) only[↓wt_q,↓aBb,t29,e30,e32,↓qpre,aAb,aAe,aAc]
     refine ⟨⟨by omega,by omega⟩,?_⟩
     simp only[sliced,Nat.mul_one]
     refine ⟨?_,?_⟩
     ·refine aAi (by kernel_rfl) (HC2.out _ HS.out) rfl rfl ?_
      rintro e u5 ⟨A2,c2,rfl,hr,hf,hb⟩
      have HX2:=hid (aBa (l:=(tb::obs out)) hr hf (fun b hb=>Nat.lt_of_lt_of_le (HLT.out b hb) HS.out.size))
      have HX0:=hid (HX0.out.keep (Keeps.of_below hb))
      have HX1:=hid (HX1.out.keep (Keeps.of_below hb))
      have HS:=hid (HS.out.trans (hb.mono HS.out.size))
      clear hr hf hb
      refine ⟨_,rfl,hT _ HS.out,?_⟩
      simp (maxSteps:=9^7) only[↓wt_b,e31,aAb,aAc]
      refine aBp rfl (fun w=>aCl _ _ _ _ _ _ _ _ _ w) ?_
      simp (maxSteps:=9^7) only[↓aAl,e32,aAb,aAc]
      refine aBr aDt ⟨hT _ (HS.out.alloc HS.out.size _),?_⟩
      simp (maxSteps:=9^7) only[↓aAl,e33,aAb,aAc]
      obtain ⟨c,u6,ec,eu,hcb,hcl,hbb⟩:=aCk _ HS.out
      simp only[Value.cells] at eu ⊢
      rw[<-ec,<-eu]
      have HX0:=hid ((HX0.out.less (m:=c::tb::obs out) (fun b hb=>by rcases List.mem_cons.1 hb with h | h;exact .inr (by rw[h,ec];exact Nat.le_refl _);exact .inl h)).keep (Keeps.of_below hbb))
      have HX1:=hid ((HX1.out.less (m:=c::tb::obs out) (fun b hb=>by rcases List.mem_cons.1 hb with h | h;exact .inr (by rw[h,ec];exact Nat.le_refl _);exact .inl h)).keep (Keeps.of_below hbb))
      have HX2:=hid ((HX2.out.less (m:=c::tb::obs out) (fun b hb=>by rcases List.mem_cons.1 hb with h | h;exact .inr (by rw[h,ec];exact Nat.le_refl _);exact .inl h)).keep (Keeps.of_below hbb))
      have HS:=hid (HS.out.trans (hbb.mono HS.out.size))
      have HCB:=hid hcb
      have HCL:=hid hcl
      clear hcb hcl hbb ec eu
      refine aAs rfl rfl HCB.out hiK rfl (by simp[Value.oneCell']) ⟨hT _ (aAj HS.out HCL.out.1),?_⟩
      simp (maxSteps:=9^7) only[aAb]
      exact LEAF _ _ _ _ _ _ _ _ HS.out HCB.out HCL.out HX0.out HX1.out HX2.out
     refine aBr aDt ⟨hT _ (HS.out.alloc HS.out.size _),?_⟩
     simp (maxSteps:=9^7) only[↓aAl,e30,aAb,aAc]
     obtain ⟨c,u5,ec,eu,hcb,hcl,hbb⟩:=aCk _ HS.out
     simp only[Value.cells] at eu ⊢
     rw[<-ec,<-eu]
     have HX0:=hid ((HX0.out.less (m:=c::tb::obs out) (fun b hb=>by rcases List.mem_cons.1 hb with h | h;exact .inr (by rw[h,ec];exact Nat.le_refl _);exact .inl h)).keep (Keeps.of_below hbb))
     have HX1:=hid ((HX1.out.less (m:=c::tb::obs out) (fun b hb=>by rcases List.mem_cons.1 hb with h | h;exact .inr (by rw[h,ec];exact Nat.le_refl _);exact .inl h)).keep (Keeps.of_below hbb))
     have HS:=hid (HS.out.trans (hbb.mono HS.out.size))
     have HCB:=hid hcb
     have HCL:=hid hcl
     clear hcb hcl hbb ec eu
     refine aAi (by kernel_rfl) (HC2.out _ HS.out) rfl rfl ?_
     rintro e u6 ⟨A2,c2,rfl,hr,hf,hb⟩
     have HX2:=hid (aBa (l:=(c::tb::obs out)) hr hf (all_cons (by have:=HCL.out;have:=HS.out.size;omega) (fun b hb=>Nat.lt_of_lt_of_le (HLT.out b hb) HS.out.size)))
     have HX0:=hid (HX0.out.keep (Keeps.of_below hb))
     have HX1:=hid (HX1.out.keep (Keeps.of_below hb))
     have HCB:=hid ((hb.block _ HCL.out.2).trans HCB.out)
     have HCL:=hid (And.intro HCL.out.1 (Nat.lt_of_lt_of_le HCL.out.2 hb.size))
     have HS:=hid (HS.out.trans (hb.mono HS.out.size))
     clear hr hf hb
     refine ⟨_,rfl,hT _ HS.out,?_⟩
     simp (maxSteps:=9^7) only[↓wt_b,e31,aAb,aAc]
     refine aBp rfl (fun w=>aCl _ _ _ _ _ _ _ _ _ w) ?_
     simp (maxSteps:=9^7) only[↓aAl,e33,aAb,aAc]
     refine aAs rfl rfl HCB.out hiK rfl (by simp[Value.oneCell']) ⟨hT _ (aAj HS.out HCL.out.1),?_⟩
     simp (maxSteps:=9^7) only[aAb]
     exact LEAF _ _ _ _ _ _ _ _ HS.out HCB.out HCL.out HX0.out HX1.out HX2.out
    refine aBr aDt ⟨hT _ (HS.out.alloc HS.out.size _),?_⟩
    simp (maxSteps:=9^7) only[↓aAl,e26,aAb,aAc]
    obtain ⟨c,u4,ec,eu,hcb,hcl,hbb⟩:=aCk _ HS.out
    simp only[Value.cells] at eu ⊢
    rw[<-ec,<-eu]
    have HX0:=hid ((HX0.out.less (m:=c::tb::obs out) (fun b hb=>by rcases List.mem_cons.1 hb with h | h;exact .inr (by rw[h,ec];exact Nat.le_refl _);exact .inl h)).keep (Keeps.of_below hbb))
    have HX1:=hid ((HX1.out.less (m:=c::tb::obs out) (fun b hb=>by rcases List.mem_cons.1 hb with h | h;exact .inr (by rw[h,ec];exact Nat.le_refl _);exact .inl h)).keep (Keeps.of_below hbb))
    have HS:=hid (HS.out.trans (hbb.mono HS.out.size))
    have HCB:=hid hcb
    have HCL:=hid hcl
    clear hcb hcl hbb ec eu
    refine aAi (by kernel_rfl) (aDi ((HS.out.cell (p:=⟨tb,5,none⟩) hhi2).trans k5)) rfl rfl ?_
    rintro e u5 ⟨rfl,rfl⟩
    refine ⟨_,rfl,hT _ HS.out,?_⟩
    simp (maxSteps:=9^7) only[↓wt_q,↓aAl,t29,e30,↓qpre,aAb,aAe,aAc]
    refine ⟨⟨by omega,by omega⟩,?_⟩
    simp only[sliced,Nat.mul_one]
    refine aAi (by kernel_rfl) (HC2.out _ HS.out) rfl rfl ?_
    rintro e u6 ⟨A2,c2,rfl,hr,hf,hb⟩
    have HX2:=hid (aBa (l:=(c::tb::obs out)) hr hf (all_cons (by have:=HCL.out;have:=HS.out.size;omega) (fun b hb=>Nat.lt_of_lt_of_le (HLT.out b hb) HS.out.size)))
    have HX0:=hid (HX0.out.keep (Keeps.of_below hb))
    have HX1:=hid (HX1.out.keep (Keeps.of_below hb))
    have HCB:=hid ((hb.block _ HCL.out.2).trans HCB.out)
    have HCL:=hid (And.intro HCL.out.1 (Nat.lt_of_lt_of_le HCL.out.2 hb.size))
    have HS:=hid (HS.out.trans (hb.mono HS.out.size))
    clear hr hf hb
    refine ⟨_,rfl,hT _ HS.out,?_⟩
    simp (maxSteps:=9^7) only[↓wt_b,e31,aAb,aAc]
    refine aBp rfl (fun w=>aCl _ _ _ _ _ _ _ _ _ w) ?_
    simp (maxSteps:=9^7) only[↓aAl,e33,aAb,aAc]
    refine aAs rfl rfl HCB.out hiK rfl (by simp[Value.oneCell']) ⟨hT _ (aAj HS.out HCL.out.1),?_⟩
    simp (maxSteps:=9^7) only[aAb]
    exact LEAF _ _ _ _ _ _ _ _ HS.out HCB.out HCL.out HX0.out HX1.out HX2.out
   refine aBr aDt ⟨hT _ (HS.out.alloc HS.out.size _),?_⟩
   simp (maxSteps:=9^7) only[↓aAl,e20,aAb,aAc]
   obtain ⟨c,u3,ec,eu,hcb,hcl,hbb⟩:=aCk _ HS.out
   simp only[Value.cells] at eu ⊢
   rw[<-ec,<-eu]
   have HX0:=hid ((HX0.out.less (m:=c::tb::obs out) (fun b hb=>by rcases List.mem_cons.1 hb with h | h;exact .inr (by rw[h,ec];exact Nat.le_refl _);exact .inl h)).keep (Keeps.of_below hbb))
   have HS:=hid (HS.out.trans (hbb.mono HS.out.size))
   have HCB:=hid hcb
   have HCL:=hid hcl
   clear hcb hcl hbb ec eu
   refine aAi (by kernel_rfl) (HC1.out _ HS.out) rfl rfl ?_
   rintro e u4 ⟨A1,c1,rfl,hr,hf,hb⟩
   have HX1:=hid (aBa (l:=(c::tb::obs out)) hr hf (all_cons (by have:=HCL.out;have:=HS.out.size;omega) (fun b hb=>Nat.lt_of_lt_of_le (HLT.out b hb) HS.out.size)))
   have HX0:=hid (HX0.out.keep (Keeps.of_below hb))
   have HCB:=hid ((hb.block _ HCL.out.2).trans HCB.out)
   have HCL:=hid (And.intro HCL.out.1 (Nat.lt_of_lt_of_le HCL.out.2 hb.size))
   have HS:=hid (HS.out.trans (hb.mono HS.out.size))
   clear hr hf hb
   refine ⟨_,rfl,hT _ HS.out,?_⟩
   simp (maxSteps:=9^7) only[↓aAl,e26,aAb,aAc]
   refine aAi (by kernel_rfl) (aDi ((HS.out.cell (p:=⟨tb,5,none⟩) hhi2).trans k5)) rfl rfl ?_
   rintro e u5 ⟨rfl,rfl⟩
   refine ⟨_,rfl,hT _ HS.out,?_⟩
   simp (maxSteps:=9^7) only[↓wt_q,↓aAl,t29,e30,↓qpre,aAb,aAe,aAc]
   refine ⟨⟨by omega,by omega⟩,?_⟩
   simp only[sliced,Nat.mul_one]
   refine aAi (by kernel_rfl) (HC2.out _ HS.out) rfl rfl ?_
   rintro e u6 ⟨A2,c2,rfl,hr,hf,hb⟩
   have HX2:=hid (aBa (l:=(c::tb::obs out)) hr hf (all_cons (by have:=HCL.out;have:=HS.out.size;omega) (fun b hb=>Nat.lt_of_lt_of_le (HLT.out b hb) HS.out.size)))
   have HX0:=hid (HX0.out.keep (Keeps.of_below hb))
   have HX1:=hid (HX1.out.keep (Keeps.of_below hb))
   have HCB:=hid ((hb.block _ HCL.out.2).trans HCB.out)
   have HCL:=hid (And.intro HCL.out.1 (Nat.lt_of_lt_of_le HCL.out.2 hb.size))
   have HS:=hid (HS.out.trans (hb.mono HS.out.size))
   clear hr hf hb
   refine ⟨_,rfl,hT _ HS.out,?_⟩
   simp (maxSteps:=9^7) only[↓wt_b,e31,aAb,aAc]
   refine aBp rfl (fun w=>aCl _ _ _ _ _ _ _ _ _ w) ?_
   simp (maxSteps:=9^7) only[↓aAl,e33,aAb,aAc]
   refine aAs rfl rfl HCB.out hiK rfl (by simp[Value.oneCell']) ⟨hT _ (aAj HS.out HCL.out.1),?_⟩
   simp (maxSteps:=9^7) only[aAb]
   exact LEAF _ _ _ _ _ _ _ _ HS.out HCB.out HCL.out HX0.out HX1.out HX2.out
  refine aBr aDt ⟨hT _ (HS.out.alloc HS.out.size _),?_⟩
  simp (maxSteps:=9^7) only[↓aAl,e16,aAb,aAc]
  obtain ⟨c,u2,ec,eu,hcb,hcl,hbb⟩:=aCk _ HS.out
  simp only[Value.cells] at eu ⊢
  rw[<-ec,<-eu]
  have HX0:=hid ((HX0.out.less (m:=c::tb::obs out) (fun b hb=>by rcases List.mem_cons.1 hb with h | h;exact .inr (by rw[h,ec];exact Nat.le_refl _);exact .inl h)).keep (Keeps.of_below hbb))
  have HS:=hid (HS.out.trans (hbb.mono HS.out.size))
  have HCB:=hid hcb
  have HCL:=hid hcl
  clear hcb hcl hbb ec eu
  refine aAi (by kernel_rfl) (aLg ((HS.out.cell (p:=⟨tb,4,none⟩) hhi2).trans k4)) rfl rfl ?_
  rintro e u3 ⟨rfl,rfl⟩
  refine ⟨_,rfl,hT _ HS.out,?_⟩
  simp (maxSteps:=9^7) only[↓wt_q,↓aAl,t19,e20,↓qpre,aAb,aAe,aAc]
  refine ⟨⟨by omega,by omega⟩,?_⟩
  simp only[sliced,Nat.mul_one]
  refine aAi (by kernel_rfl) (HC1.out _ HS.out) rfl rfl ?_
  rintro e u4 ⟨A1,c1,rfl,hr,hf,hb⟩
  have HX1:=hid (aBa (l:=(c::tb::obs out)) hr hf (all_cons (by have:=HCL.out;have:=HS.out.size;omega) (fun b hb=>Nat.lt_of_lt_of_le (HLT.out b hb) HS.out.size)))
  have HX0:=hid (HX0.out.keep (Keeps.of_below hb))
  have HCB:=hid ((hb.block _ HCL.out.2).trans HCB.out)
  have HCL:=hid (And.intro HCL.out.1 (Nat.lt_of_lt_of_le HCL.out.2 hb.size))
  have HS:=hid (HS.out.trans (hb.mono HS.out.size))
  clear hr hf hb
  refine ⟨_,rfl,hT _ HS.out,?_⟩
  simp (maxSteps:=9^7) only[↓aAl,e26,aAb,aAc]
  refine aAi (by kernel_rfl) (aDi ((HS.out.cell (p:=⟨tb,5,none⟩) hhi2).trans k5)) rfl rfl ?_
  rintro e u5 ⟨rfl,rfl⟩
  refine ⟨_,rfl,hT _ HS.out,?_⟩
  simp (maxSteps:=9^7) only[↓wt_q,↓aAl,t29,e30,↓qpre,aAb,aAe,aAc]
  refine ⟨⟨by omega,by omega⟩,?_⟩
  simp only[sliced,Nat.mul_one]
  refine aAi (by kernel_rfl) (HC2.out _ HS.out) rfl rfl ?_
  rintro e u6 ⟨A2,c2,rfl,hr,hf,hb⟩
  have HX2:=hid (aBa (l:=(c::tb::obs out)) hr hf (all_cons (by have:=HCL.out;have:=HS.out.size;omega) (fun b hb=>Nat.lt_of_lt_of_le (HLT.out b hb) HS.out.size)))
  have HX0:=hid (HX0.out.keep (Keeps.of_below hb))
  have HX1:=hid (HX1.out.keep (Keeps.of_below hb))
  have HCB:=hid ((hb.block _ HCL.out.2).trans HCB.out)
  have HCL:=hid (And.intro HCL.out.1 (Nat.lt_of_lt_of_le HCL.out.2 hb.size))
  have HS:=hid (HS.out.trans (hb.mono HS.out.size))
  clear hr hf hb
  refine ⟨_,rfl,hT _ HS.out,?_⟩
  simp (maxSteps:=9^7) only[↓wt_b,e31,aAb,aAc]
  refine aBp rfl (fun w=>aCl _ _ _ _ _ _ _ _ _ w) ?_
  simp (maxSteps:=9^7) only[↓aAl,e33,aAb,aAc]
  refine aAs rfl rfl HCB.out hiK rfl (by simp[Value.oneCell']) ⟨hT _ (aAj HS.out HCL.out.1),?_⟩
  simp (maxSteps:=9^7) only[aAb]
  exact LEAF _ _ _ _ _ _ _ _ HS.out HCB.out HCL.out HX0.out HX1.out HX2.out
 refine aBr aDt ⟨hT _ (HS.out.alloc HS.out.size _),?_⟩
 simp (maxSteps:=9^7) only[↓aAl,e10,aAb,aAc]
 obtain ⟨c,u1,ec,eu,hcb,hcl,hbb⟩:=aCk _ HS.out
 simp only[Value.cells] at eu ⊢
 rw[<-ec,<-eu]
 have HS:=hid (HS.out.trans (hbb.mono HS.out.size))
 have HCB:=hid hcb
 have HCL:=hid hcl
 clear hcb hcl hbb ec eu
 refine aAi (by kernel_rfl) (HC0.out _ HS.out) rfl rfl ?_
 rintro e u2 ⟨A0,c0,rfl,hr,hf,hb⟩
 have HX0:=hid (aBa (l:=(c::tb::obs out)) hr hf (all_cons (by have:=HCL.out;have:=HS.out.size;omega) (fun b hb=>Nat.lt_of_lt_of_le (HLT.out b hb) HS.out.size)))
 have HCB:=hid ((hb.block _ HCL.out.2).trans HCB.out)
 have HCL:=hid (And.intro HCL.out.1 (Nat.lt_of_lt_of_le HCL.out.2 hb.size))
 have HS:=hid (HS.out.trans (hb.mono HS.out.size))
 clear hr hf hb
 refine ⟨_,rfl,hT _ HS.out,?_⟩
 simp (maxSteps:=9^7) only[↓aAl,e16,aAb,aAc]
 refine aAi (by kernel_rfl) (aLg ((HS.out.cell (p:=⟨tb,4,none⟩) hhi2).trans k4)) rfl rfl ?_
 rintro e u3 ⟨rfl,rfl⟩
 refine ⟨_,rfl,hT _ HS.out,?_⟩
 simp (maxSteps:=9^7) only[↓wt_q,↓aAl,t19,e20,↓qpre,aAb,aAe,aAc]
 refine ⟨⟨by omega,by omega⟩,?_⟩
 simp only[sliced,Nat.mul_one]
 refine aAi (by kernel_rfl) (HC1.out _ HS.out) rfl rfl ?_
 rintro e u4 ⟨A1,c1,rfl,hr,hf,hb⟩
 have HX1:=hid (aBa (l:=(c::tb::obs out)) hr hf (all_cons (by have:=HCL.out;have:=HS.out.size;omega) (fun b hb=>Nat.lt_of_lt_of_le (HLT.out b hb) HS.out.size)))
 have HX0:=hid (HX0.out.keep (Keeps.of_below hb))
 have HCB:=hid ((hb.block _ HCL.out.2).trans HCB.out)
 have HCL:=hid (And.intro HCL.out.1 (Nat.lt_of_lt_of_le HCL.out.2 hb.size))
 have HS:=hid (HS.out.trans (hb.mono HS.out.size))
 clear hr hf hb
 refine ⟨_,rfl,hT _ HS.out,?_⟩
 simp (maxSteps:=9^7) only[↓aAl,e26,aAb,aAc]
 refine aAi (by kernel_rfl) (aDi ((HS.out.cell (p:=⟨tb,5,none⟩) hhi2).trans k5)) rfl rfl ?_
 rintro e u5 ⟨rfl,rfl⟩
 refine ⟨_,rfl,hT _ HS.out,?_⟩
 simp (maxSteps:=9^7) only[↓wt_q,↓aAl,t29,e30,↓qpre,aAb,aAe,aAc]
 refine ⟨⟨by omega,by omega⟩,?_⟩
 simp only[sliced,Nat.mul_one]
 refine aAi (by kernel_rfl) (HC2.out _ HS.out) rfl rfl ?_
 rintro e u6 ⟨A2,c2,rfl,hr,hf,hb⟩
 have HX2:=hid (aBa (l:=(c::tb::obs out)) hr hf (all_cons (by have:=HCL.out;have:=HS.out.size;omega) (fun b hb=>Nat.lt_of_lt_of_le (HLT.out b hb) HS.out.size)))
 have HX0:=hid (HX0.out.keep (Keeps.of_below hb))
 have HX1:=hid (HX1.out.keep (Keeps.of_below hb))
 have HCB:=hid ((hb.block _ HCL.out.2).trans HCB.out)
 have HCL:=hid (And.intro HCL.out.1 (Nat.lt_of_lt_of_le HCL.out.2 hb.size))
 have HS:=hid (HS.out.trans (hb.mono HS.out.size))
 clear hr hf hb
 refine ⟨_,rfl,hT _ HS.out,?_⟩
 simp (maxSteps:=9^7) only[↓wt_b,e31,aAb,aAc]
 refine aBp rfl (fun w=>aCl _ _ _ _ _ _ _ _ _ w) ?_
 simp (maxSteps:=9^7) only[↓aAl,e33,aAb,aAc]
 refine aAs rfl rfl HCB.out hiK rfl (by simp[Value.oneCell']) ⟨hT _ (aAj HS.out HCL.out.1),?_⟩
 simp (maxSteps:=9^7) only[aAb]
 exact LEAF _ _ _ _ _ _ _ _ HS.out HCB.out HCL.out HX0.out HX1.out HX2.out
section
variable {P:Program} {ops:Array Oper} {S:World->Prop} {F Z:List Nat}
def wpAnyZ (P:Program)(ops:Array Oper)(Q:Exit->Act->World->Prop)(S:World->Prop)(F:List Nat):Nat->Array Bool->Act->World->Prop
 | 0,listed,a,w=>Region.ready .any ops listed=[]/\Q .normal a w
 | fuel+1,listed,a,w=>
  (Region.ready .any ops listed=[]->Q .normal a w)/\
  ∀i∈Region.ready .any ops listed,wpOp P ops Q i (fun a' w'=>(i∉F->S w->S w')/\wpAnyZ P ops Q S F fuel (listed.setIfInBounds i true) a' w') a w
variable {Q:Exit->Act->World->Prop}
theorem aGp:∀(fuel:Nat) (listed:Array Bool) (a:Act) (w:World),wpAnyZ P ops Q S F fuel listed a w->wpAny P .any ops Q fuel listed a w
 | 0,_,_,_,h=>h
 | fuel+1,_,_,_,h=>⟨h.1,fun i hi=>wpOp_mono (fun a' w' h'=>aGp fuel _ a' w' h'.2) (h.2 i hi)⟩
def LateOkZ (ops:Array Oper)(F Z:List Nat):Prop:=
 ∀listed,Closed ops listed->∀j∈F,j∈Region.ready .any ops listed->∀i,i<ops.size->i∉F->i∉Z->listed.getD i true=true
theorem aKd {i:Nat}{oi:Oper}{v:Value}(hi:ops[i]? = some oi)(hsel:∀(j:Nat)(o:Oper) cs b,ops[j]? = some o->o.op≠.select cs b)
  (hQ:∀c a w,Q (.panic c) (a.put oi.dst v) w->Q (.panic c) a w) (hF:LateOkZ ops F Z) (hiF:i∉F) (hiZ:i∉Z) :
  ∀(fuel:Nat) (listed:Array Bool) (a:Act) (w:World),Closed ops listed->
   (∀j oj,ops[j]? = some oj->j≠i->listed.getD j true=false->(∀e∈oj.after,Region.binds .any e=true->e.on≠i)->oi.apart ops oj=true)->
   i∈Region.ready .any ops listed->YieldsIf P ops S oi v a->S w->
   wpAnyZ P ops Q S F fuel (listed.setIfInBounds i true) (a.put oi.dst v) w->wpAnyZ P ops Q S F (fuel+1) listed a w:=by
 intro fuel
 induction fuel with
 | zero=>
  intro listed a w _ hfree hr hy hS H
  refine ⟨fun h=>(by rw[h] at hr;cases hr),fun j hj=>?_⟩
  by_cases hji:j=i
  ·subst hji;exact hy.wpOp hi hS ⟨fun _ _=>hS,H⟩
  have:=ready_mono hj hji
  rw[H.1] at this
  cases this
 | succ fuel ih=>
  intro listed a w hcl hfree hr hy hS H
  refine ⟨fun h=>(by rw[h] at hr;cases hr),fun j hj=>?_⟩
  by_cases hji:j=i
  ·subst hji;exact hy.wpOp hi hS ⟨fun _ _=>hS,H⟩
  have hjF:j∉F:=fun hjF=>by
   have h1:=hF listed hcl j hjF hj i (Array.getElem?_eq_some_iff.1 hi).1 hiF hiZ
   rw[(mem_ready.1 hr).1] at h1
   cases h1
  have h1:=H.2 j (ready_mono hj hji)
  obtain ⟨hjun,oj,hoj,hall⟩:=mem_ready.1 hj
  have hnot:∀e∈oj.after,Region.binds .any e=true->e.on≠i:=fun e he hb heq=>by
   have h1:=hall e he hb
   have h0:=(mem_ready.1 hr).1
   rw[heq] at h1
   rcases Nat.lt_or_ge i listed.size with h' | h'
   ·simp[h'] at h0 h1;rw[h0] at h1;cases h1
   simp[Array.getElem?_eq_none h'] at h1
  have h2:=wpOp_putIf hoj (hfree j oj hoj hji hjun hnot) (fun cs b=>hsel i oi cs b hi) (fun cs b=>hsel j oj cs b hoj) hQ hy h1
  have hfree':∀k ok,ops[k]? = some ok->k≠i->(listed.setIfInBounds j true).getD k true=false->
    (∀e∈ok.after,Region.binds .any e=true->e.on≠i)->oi.apart ops ok=true:=fun k ok hk hki hun hno=>by
   refine hfree k ok hk hki ?_ hno
   by_cases hjk:j=k
   ·subst hjk;exact hjun
   rw[getD_set_ne true hjk] at hun;exact hun
  refine wpOp_mono (fun a' w' h3=>⟨h3.2.1,ih (listed.setIfInBounds j true) a' w' (hcl.set hj) hfree' (ready_mono hr (Ne.symm hji)) h3.1 (h3.2.1 hjF hS) ?_⟩) h2
  rw[Array.setIfInBounds_comm _ _ hji]
  exact h3.2.2
theorem aUm {listed:Array Bool}{a:Act}{w:World}(hr:Region.ready .any ops listed=[])(h:Q .normal a w) :
  ∀fuel,wpAnyZ P ops Q S F fuel listed a w
 | 0=>⟨hr,h⟩
 | _+1=>⟨fun _=>h,by rw[hr];simp⟩
theorem aCy {i:Nat}{oi:Oper}{v:Value}(hi:ops[i]? = some oi)(hsel:∀(j:Nat)(o:Oper) cs b,ops[j]? = some o->o.op≠.select cs b)
  (hQ:∀c a w,Q (.panic c) (a.put oi.dst v) w->Q (.panic c) a w) :
  ∀(fuel:Nat) (listed:Array Bool) (a:Act) (w:World),Closed ops listed->
   (∀j oj,ops[j]? = some oj->j≠i->listed.getD j true=false->(∀e∈oj.after,Region.binds .any e=true->e.on≠i)->oi.apart ops oj=true)->
   i∈Region.ready .any ops listed->YieldsIf P ops (fun _=>True) oi v a->
   wpAnyZ P ops Q S F fuel (listed.setIfInBounds i true) (a.put oi.dst v) w->wpAnyZ P ops Q S F (fuel+1) listed a w:=by
 intro fuel
 induction fuel with
 | zero=>
  intro listed a w _ hfree hr hy H
  refine ⟨fun h=>(by rw[h] at hr;cases hr),fun j hj=>?_⟩
  by_cases hji:j=i
  ·subst hji;exact hy.wpOp hi trivial ⟨fun _ h=>h,H⟩
  have:=ready_mono hj hji
  rw[H.1] at this
  cases this
 | succ fuel ih=>
  intro listed a w hcl hfree hr hy H
  refine ⟨fun h=>(by rw[h] at hr;cases hr),fun j hj=>?_⟩
  by_cases hji:j=i
  ·subst hji;exact hy.wpOp hi trivial ⟨fun _ h=>h,H⟩
  have h1:=H.2 j (ready_mono hj hji)
  obtain ⟨hjun,oj,hoj,hall⟩:=mem_ready.1 hj
  have hnot:∀e∈oj.after,Region.binds .any e=true->e.on≠i:=fun e he hb heq=>by
   have h1:=hall e he hb
   have h0:=(mem_ready.1 hr).1
   rw[heq] at h1
   rcases Nat.lt_or_ge i listed.size with h' | h'
   ·simp[h'] at h0 h1;rw[h0] at h1;cases h1
   simp[Array.getElem?_eq_none h'] at h1
  have h2:=wpOp_putIf hoj (hfree j oj hoj hji hjun hnot) (fun cs b=>hsel i oi cs b hi) (fun cs b=>hsel j oj cs b hoj) hQ hy h1
  have hfree':∀k ok,ops[k]? = some ok->k≠i->(listed.setIfInBounds j true).getD k true=false->
    (∀e∈ok.after,Region.binds .any e=true->e.on≠i)->oi.apart ops ok=true:=fun k ok hk hki hun hno=>by
   refine hfree k ok hk hki ?_ hno
   by_cases hjk:j=k
   ·subst hjk;exact hjun
   rw[getD_set_ne true hjk] at hun;exact hun
  refine wpOp_mono (fun a' w' h3=>⟨h3.2.1,ih (listed.setIfInBounds j true) a' w' (hcl.set hj) hfree' (ready_mono hr (Ne.symm hji)) h3.1 ?_⟩) h2
  rw[Array.setIfInBounds_comm _ _ hji]
  exact h3.2.2
theorem aEa {C:Act->World->Prop}(hs:Region.noSelect ops=true)(hP:∀c a w,¬Q (.panic c) a w)(hF:LateOkZ ops F Z) (ρ:List (Bool×Nat))
  (hC:∀(listed:Array Bool) (fuel:Nat) (a:Act) (w:World),planOk ops ρ listed=true->ρ.length<=fuel->Closed ops listed->S w->C a w->wpAnyZ P ops Q S F fuel listed a w) :
  ∀(π:List (Bool×Nat)) (listed:Array Bool) (fuel:Nat) (a:Act) (w:World),planOk ops (π++ρ) listed=true->(π++ρ).length<=fuel->(∀x∈π,x.2∉F/\x.2∉Z)->Closed ops listed->S w->
   wl P ops S C π a w->wpAnyZ P ops Q S F fuel listed a w
 | [],listed,fuel,a,w,hp,hf,_,hcl,hS,h=>hC listed fuel a w (by simpa using hp) (by simpa using hf) hcl hS h
 | (q,i)::r,listed,fuel,a,w,hp,hf,hn,hcl,hS,h=>by
  obtain ⟨fuel,rfl⟩:∃k,fuel=k+1:=⟨fuel-1,by simp at hf;omega⟩
  simp only[List.cons_append,List.length_cons,Nat.add_le_add_iff_right] at hf
  obtain ⟨hiF,hiZ⟩:=hn (q,i) (by simp)
  have hn':∀x∈r,x.2∉F/\x.2∉Z:=fun x hx=>hn x (by simp[hx])
  simp only[wl] at h
  cases ho:ops[i]? with
  | none=>simp only[ho] at h
  | some o=>
   simp only[ho] at h
   cases q with
   | true=>
    simp only[List.cons_append,planOk,Bool.and_eq_true] at hp
    obtain ⟨⟨p1,p2⟩,p3⟩:=hp
    have hri:i∈Region.ready .any ops listed:=by simpa using p2
    by_cases hw:Region.wanted o (yielded ops a.tmps)=true
    ·rw[if_pos hw,if_pos rfl] at h
     obtain ⟨v,hv,hr⟩:=h
     exact aKd ho (Region.noSelect_spec hs) (fun c a w hh=>absurd hh (hP _ _ _)) hF hiF hiZ fuel listed a w hcl (Region.free_spec ho p1) hri (.inl ⟨hw,fun w hw'=>hv w _ _ _ _ hw'⟩) hS
      (aEa hs hP hF ρ hC r _ fuel _ w p3 hf hn' (hcl.set hri) hS hr)
    rw[if_neg hw] at h
    exact aKd ho (Region.noSelect_spec hs) (fun c a w hh=>absurd hh (hP _ _ _)) hF hiF hiZ fuel listed a w hcl (Region.free_spec ho p1) hri (.inr ⟨by simpa using hw,rfl⟩) hS
     (aEa hs hP hF ρ hC r _ fuel _ w p3 hf hn' (hcl.set hri) hS h)
   | false=>
    simp only[List.cons_append,planOk,Bool.and_eq_true,beq_iff_eq] at hp
    obtain ⟨p1,p2⟩:=hp
    refine ⟨fun h0=>(by rw[p1] at h0;cases h0),fun j hj=>?_⟩
    have hri:=hj
    rw[p1] at hj
    obtain rfl:j=i:=by simpa using hj
    unfold wpOp
    simp only[ho]
    by_cases hw:Region.wanted o (yielded ops a.tmps)=true
    ·rw[if_pos hw]
     rw[if_pos hw] at h
     simp only[Bool.false_eq_true,if_false] at h
     exact .inl (aEj (fun a' w' hh=>⟨fun _ _=>hh.1,aEa hs hP hF ρ hC r _ fuel a' w' p2 hf hn' (hcl.set hri) hh.1 hh.2⟩) (fun _ _ _ hh=>hh.elim) h)
    rw[if_neg hw]
    rw[if_neg hw] at h
    exact ⟨fun _ h=>h,aEa hs hP hF ρ hC r _ fuel _ w p2 hf hn' (hcl.set hri) hS h⟩
theorem aHb {C:Act->World->Prop}(hs:Region.noSelect ops=true)(hP:∀c a w,¬Q (.panic c) a w) (ρ:List (Bool×Nat))
  (hC:∀(listed:Array Bool) (fuel:Nat) (a:Act) (w:World),planOk ops ρ listed=true->ρ.length<=fuel->Closed ops listed->S w->C a w->wpAnyZ P ops Q S F fuel listed a w) :
  ∀(π:List (Bool×Nat)) (listed:Array Bool) (fuel:Nat) (a:Act) (w:World),planOk ops (π++ρ) listed=true->(π++ρ).length<=fuel->(∀x∈π,x.1=true)->Closed ops listed->S w->
   wl P ops (fun _=>True) C π a w->wpAnyZ P ops Q S F fuel listed a w
 | [],listed,fuel,a,w,hp,hf,_,hcl,hS,h=>hC listed fuel a w (by simpa using hp) (by simpa using hf) hcl hS h
 | (q,i)::r,listed,fuel,a,w,hp,hf,hn,hcl,hS,h=>by
  obtain ⟨fuel,rfl⟩:∃k,fuel=k+1:=⟨fuel-1,by simp at hf;omega⟩
  simp only[List.cons_append,List.length_cons,Nat.add_le_add_iff_right] at hf
  have hq:=hn (q,i) (by simp)
  simp only at hq
  subst hq
  have hn':∀x∈r,x.1=true:=fun x hx=>hn x (by simp[hx])
  simp only[wl] at h
  cases ho:ops[i]? with
  | none=>simp only[ho] at h
  | some o=>
   simp only[ho] at h
   simp only[List.cons_append,planOk,Bool.and_eq_true] at hp
   obtain ⟨⟨p1,p2⟩,p3⟩:=hp
   have hri:i∈Region.ready .any ops listed:=by simpa using p2
   by_cases hw:Region.wanted o (yielded ops a.tmps)=true
   ·rw[if_pos hw] at h
    simp only[if_true] at h
    obtain ⟨v,hv,hr⟩:=h
    exact aCy ho (Region.noSelect_spec hs) (fun c a w hh=>absurd hh (hP _ _ _)) fuel listed a w hcl (Region.free_spec ho p1) hri (.inl ⟨hw,fun w hw'=>hv w _ _ _ _ hw'⟩)
     (aHb hs hP ρ hC r _ fuel _ w p3 hf hn' (hcl.set hri) hS hr)
   rw[if_neg hw] at h
   exact aCy ho (Region.noSelect_spec hs) (fun c a w hh=>absurd hh (hP _ _ _)) fuel listed a w hcl (Region.free_spec ho p1) hri (.inr ⟨by simpa using hw,rfl⟩)
    (aHb hs hP ρ hC r _ fuel _ w p3 hf hn' (hcl.set hri) hS h)
theorem aEb {Qn:Act->World->Prop}(hs:Region.noSelect ops=true)(hP:∀c a w,¬Q (.panic c) a w)(hQ:∀a w,Qn a w->Q .normal a w) :
  ∀(π:List (Bool×Nat)) (listed:Array Bool) (fuel:Nat) (a:Act) (w:World),planOk ops π listed=true->π.length<=fuel->(∀x∈π,x.2∈F)->Closed ops listed->
   wl P ops (fun _=>True) Qn π a w->wpAnyZ P ops Q S F fuel listed a w
 | [],listed,fuel,a,w,hp,_,_,_,h=>aUm (by simpa[planOk] using hp) (hQ _ _ h) fuel
 | (q,i)::r,listed,fuel,a,w,hp,hf,hl,hcl,h=>by
  obtain ⟨fuel,rfl⟩:∃k,fuel=k+1:=⟨fuel-1,by simp at hf;omega⟩
  simp only[List.length_cons,Nat.add_le_add_iff_right] at hf
  have hiF:=hl (q,i) (by simp)
  simp only at hiF
  have hl':∀x∈r,x.2∈F:=fun x hx=>hl x (by simp[hx])
  simp only[wl] at h
  cases ho:ops[i]? with
  | none=>simp only[ho] at h
  | some o=>
   simp only[ho] at h
   cases q with
   | true=>
    simp only[planOk,Bool.and_eq_true] at hp
    obtain ⟨⟨p1,p2⟩,p3⟩:=hp
    have hri:i∈Region.ready .any ops listed:=by simpa using p2
    by_cases hw:Region.wanted o (yielded ops a.tmps)=true
    ·rw[if_pos hw,if_pos rfl] at h
     obtain ⟨v,hv,hr⟩:=h
     exact aCy ho (Region.noSelect_spec hs) (fun c a w hh=>absurd hh (hP _ _ _)) fuel listed a w hcl (Region.free_spec ho p1) hri (.inl ⟨hw,fun w hw'=>hv w _ _ _ _ hw'⟩)
      (aEb hs hP hQ r _ fuel _ w p3 hf hl' (hcl.set hri) hr)
    rw[if_neg hw] at h
    exact aCy ho (Region.noSelect_spec hs) (fun c a w hh=>absurd hh (hP _ _ _)) fuel listed a w hcl (Region.free_spec ho p1) hri (.inr ⟨by simpa using hw,rfl⟩)
     (aEb hs hP hQ r _ fuel _ w p3 hf hl' (hcl.set hri) h)
   | false=>
    simp only[planOk,Bool.and_eq_true,beq_iff_eq] at hp
    obtain ⟨p1,p2⟩:=hp
    refine ⟨fun h0=>(by rw[p1] at h0;cases h0),fun j hj=>?_⟩
    have hri:=hj
    rw[p1] at hj
    obtain rfl:j=i:=by simpa using hj
    unfold wpOp
    simp only[ho]
    by_cases hw:Region.wanted o (yielded ops a.tmps)=true
    ·rw[if_pos hw]
     rw[if_pos hw] at h
     simp only[Bool.false_eq_true,if_false] at h
     exact .inl (aEj (fun a' w' hh=>⟨fun hn=>absurd hiF hn,aEb hs hP hQ r _ fuel a' w' p2 hf hl' (hcl.set hri) hh.2⟩) (fun _ _ _ hh=>hh.elim) h)
    rw[if_neg hw]
    rw[if_neg hw] at h
    exact ⟨fun hn=>absurd hiF hn,aEb hs hP hQ r _ fuel _ w p2 hf hl' (hcl.set hri) h⟩
def floatChk (ops:Array Oper)(F Z:List Nat):Bool:=
 F.all fun f=>let m:=closB ops (List.range ops.size).reverse (2 ^ f);(List.range ops.size).all fun i=>F.contains i || Z.contains i || m.testBit i
theorem aYd {F Z:List Nat}(h:floatChk ops F Z=true):LateOkZ ops F Z:=by
 intro listed hcl f hf hr i hi hiF hiZ
 have h1:=List.all_eq_true.1 h f hf
 have h2:=List.all_eq_true.1 h1 i (List.mem_range.2 hi)
 simp only[Bool.or_eq_true] at h2
 rcases h2 with (h2 | h2) | h2
 ·exact absurd (by simpa using h2) hiF
 ·exact absurd (by simpa using h2) hiZ
 rcases aJf hcl hr _ _ (fun t ht=>by rw[Nat.testBit_two_pow] at ht;left;exact (of_decide_eq_true ht).symm) i h2 with h3 | h3
 ·exact absurd (h3▸hf) hiF
 rcases Nat.lt_or_ge i listed.size with h' | h'
 ·simpa[h'] using h3
 simp[Array.getElem?_eq_none h'] at h3
def quiets (Z:List Nat):List (Bool×Nat):=Z.map fun i=>(true,i)
def planChkZ (ops:Array Oper) (π Z' σ ρ:List (Bool×Nat))(F Z:List Nat):Bool:=
 planChk ops (π++(Z'++(σ++ρ))) && floatChk ops F Z && (π.all fun x=>!F.contains x.2 && !Z.contains x.2) && (σ.all fun x=>!F.contains x.2 && !Z.contains x.2) && (ρ.all fun x=>F.contains x.2)
end
end Go.Proofs.YtohblmepajhpaaaGreatDoor
