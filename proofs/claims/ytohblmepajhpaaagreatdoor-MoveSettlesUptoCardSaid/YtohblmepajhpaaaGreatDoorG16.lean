/- Texts of the walks, together: Walk: similar's take. Walk: similar's same. Walk: similar's same. Walk: similar's same. Walk: similar's best. Walk: similar's alike. Walk: similar's alike. Walks: cmp.Compare of strings, cmp.Or, Renames' order. -/
import Derived.Test.YtohblmepajhpaaaGreatDoorG14
set_option maxHeartbeats 8000000
set_option maxRecDepth 100000
open Go.Lib (hid)
namespace Go.Proofs.YtohblmepajhpaaaGreatDoor
open Go.RowKit
def Sr (w0 w:World)(sb m:Nat)(bs ss:Value)(is js:List Nat)(ps:List (Nat×Nat))(G:GT)(Z:Nat->Obj->Prop):Prop:=∃f t o,SP w0 w sb m bs ss f t o is js ps G Z
theorem Sr.below {w0 w w':World}{sb m:Nat}{bs ss:Value}{is js:List Nat}{ps:List (Nat×Nat)}{G:GT}{Z:Nat->Obj->Prop}(h:Sr w0 w sb m bs ss is js ps G Z)(hb:Below w.heap.size w w'):Sr w0 w' sb m bs ss is js ps G Z:=by
 obtain ⟨f,t,o,h⟩:=h
 exact ⟨f,t,o,h.below hb⟩
theorem Sr.weaken {w0 w:World}{sb m:Nat}{bs ss:Value}{is js:List Nat}{ps:List (Nat×Nat)}{G:GT} {Z Z':Nat->Obj->Prop}(h:Sr w0 w sb m bs ss is js ps G Z)(hz:∀k ob,Z' k ob->Z k ob):Sr w0 w sb m bs ss is js ps G Z':=by
 obtain ⟨f,t,o,h⟩:=h
 exact ⟨f,t,o,h.hs,h.f1,h.t1,h.o1,h.nf,h.nt,h.no,h.nft,h.nfo,h.nto,h.mp,h.lo,h.bel,fun k ob hk=>h.oth k ob (hz k ob hk)⟩
theorem Sr.more {w0 w w':World}{sb m:Nat}{bs ss:Value}{is js:List Nat}{ps:List (Nat×Nat)}{G:GT}{Z:Nat->Obj->Prop}(h:Sr w0 w sb m bs ss is js ps G Z)(hb:Below w.heap.size w w'){g:Nat}{q:Obj}(hg:w'.heap[g]? = some q)(hlo:w.heap.size<=g) :
  Sr w0 w' sb m bs ss is js ps G fun k ob=>Z k ob\/(k=g/\ob=q):=by
 obtain ⟨f,t,o,h⟩:=h
 have h':=h.below hb
 refine ⟨f,t,o,h'.hs,h'.f1,h'.t1,h'.o1,h'.nf,h'.nt,h'.no,h'.nft,h'.nfo,h'.nto,h'.mp,h'.lo,h'.bel,fun k ob hk=>?_⟩
 rcases hk with hk | ⟨rfl,rfl⟩
 ·exact h'.oth k ob hk
 refine ⟨hg,fun e=>?_,fun e=>?_,fun e=>?_,fun e=>?_⟩
 ·have:=aAa h.hs;omega
 ·have:=(h.f1.lt _ e).2;omega
 ·have:=(h.t1.lt _ e).2;omega
 have:=(h.o1.lt _ e).2;omega
theorem aWe (i:Nat)(l:List Nat):dropI (fun x=>decide (x=i)) l=l.filter fun k=>decide (k≠i):=by
 unfold dropI
 congr 1
 funext x
 simp
theorem aMa {P:Program}{t e:TypeId}{bytes:Nat}(E:Elem P t e 2 bytes)(a b:Value)(w:World) :
  (Instr.buildSlice t 1 #[(0,.agg #[a,b])]).run P w=.ok (.slice (some ⟨w.heap.size,0,none⟩) 1 1) (w.alloc (.cells #[a,b] e)):=by
 obtain ⟨i,z,hi,hz,hsz,hby,hzs⟩:=E.row
 obtain ⟨z0,z1,hzc⟩:∃z0 z1,z.cells=#[z0,z1]:=by
  have:=hzs
  match h:z.cells,this with
  | ⟨[z0,z1]⟩,_=>exact ⟨z0,z1,rfl⟩
 simp[Instr.buildSlice,run_underlying E.und,sizeOf,typeInfo,hi,hsz,zeroValue,hz,Instr.fill,Value.cells,newRow,show Array.range 2=#[0,1] from rfl]
theorem bEr {w:World}{B:Nat}{v:Value}{xs:List Nat}(h:w.ownsRow B 3 1 v xs.length (natsV xs))(hv:v≠.slice none 0 0) :
  ∃r cap cur,v=.slice (some ⟨r,0,none⟩) xs.length cap/\B<=r/\w.heap[r]? = some (.cells cur 3 (0,0))/\xs.length<=cap/\cap<=maxLen/\cur.size=cap/\cur.toList.take xs.length=natsV xs:=by
 rcases h.2 with ⟨e,_⟩ | ⟨g,cap,cur,e,h1,h2,h3,h4,h5,h6⟩
 ·exact absurd e hv
 exact ⟨g,cap,cur,e,h1,h2,h3,h4,by simpa using h5,by simpa using h6⟩
theorem bHt {w:World}{B r n cap:Nat}{cur:Array Value}{xs:List Nat}(hb:B<=r)(hg:w.heap[r]? = some (.cells cur 3 (0,0)))(hnc:n<=cap)(hcm:cap<=maxLen)(hcs:cur.size=cap)(ht:cur.toList.take n=natsV xs)(hx:xs.length=n) :
  w.ownsRow B 3 1 (.slice (some ⟨r,0,none⟩) n cap) xs.length (natsV xs):=by
 subst hx
 exact ⟨by rw[aCs,Nat.mul_one],.inr ⟨r,cap,cur,rfl,hb,hg,hnc,hcm,by simpa using hcs,by simpa using ht⟩⟩
theorem aWl {w0 w:World}{sb m i j:Nat}{bs ss:Value}{is js:List Nat}{ps:List (Nat×Nat)}{G:GT}{Z:Nat->Obj->Prop}(h:Sr w0 w sb m bs ss is js ps G Z)(hi:i∈is)(hj:j∈js)(hl1:is.length<=100000)(hl2:js.length<=100000)(hl3:ps.length<=100000) :
  Calls Tryz.prog 208 #[.pointer (some ⟨sb,0,none⟩),.agg #[.int .i64 (i:Int),.int .i64 (j:Int)]] w fun e w'=>e=.returned (.tuple #[])/\Sr w0 w' sb m bs ss (is.filter fun k=>decide (k≠i)) (js.filter fun k=>decide (k≠j)) (ps++[(i,j)]) G Z:=by
 obtain ⟨f,t,o,h⟩:=h
 have hW:Below w.heap.size w (w.alloc (.cells #[.int .i64 (i:Int),.int .i64 (j:Int)] 234)):=(Below.refl _ _).alloc (Nat.le_refl _) _
 have HP:=hid (h.below hW)
 have HBX:=hid (heap_alloc_new w (.cells #[.int .i64 (i:Int),.int .i64 (j:Int)] 234))
 have hfe:f≠.slice none 0 0:=fun e=>by
  have:=h.f1
  subst e
  rcases this.2 with ⟨_,h0⟩ | ⟨g,cap,cur,e,_⟩
  ·rw[List.length_eq_zero_iff.1 h0] at hi;cases hi
  cases e
 have hte:t≠.slice none 0 0:=fun e=>by
  have:=h.t1
  subst e
  rcases this.2 with ⟨_,h0⟩ | ⟨g,cap,cur,e,_⟩
  ·rw[List.length_eq_zero_iff.1 h0] at hj;cases hj
  cases e
 have HPF:=hid (fun e:f.ownBlock=some w.heap.size=>Nat.lt_irrefl _ (h.f1.lt _ e).2)
 have HPT:=hid (fun e:t.ownBlock=some w.heap.size=>Nat.lt_irrefl _ (h.t1.lt _ e).2)
 have HPO:=hid (fun e:o.ownBlock=some w.heap.size=>Nat.lt_irrefl _ (h.o1.lt _ e).2)
 have HPS:=hid (Nat.ne_of_gt (aAa h.hs))
 have HFE:=hid hfe
 have HTE:=hid hte
 clear h hW hfe hte hi hj
 obtain ⟨W,eW⟩:∃W,W=w.alloc (.cells #[.int .i64 (i:Int),.int .i64 (j:Int)] 234):=⟨_,rfl⟩
 go_enter Tryz.func208,Tryz.ntmps208
 go_wp2
 rw[<-eW] at HP HBX ⊢
 clear eW
 generalize w.heap.size=pb at *
 refine aBf (fun w'=>w'.heap[sb]? = some (.cells #[bs,ss,f,t,.map (some m),o] 231 (0,0))/\w'.heap[pb]? = some (.cells #[.int .i64 (i:Int),.int .i64 (j:Int)] 234 (0,0)))
  [(true,0),(true,1),(true,2),(true,3),(true,4),(true,5),(false,6),(false,7),(true,8),(true,9)] [10] mixed (by kernel_rfl) ⟨HP.out.hs,HBX.out⟩ ?_
 intro Tp M Q Q2 hT hT' hM hQ hQ2
 have m0:M ⟨sb,5,none⟩=some o:=hM _ _ fun w' hw=>by rw[Lib.cell_of_heap hw.1];rfl
 have m1:M ⟨pb,0,none⟩=some (.int .i64 (i:Int)):=hM _ _ fun w' hw=>by rw[Lib.cell_of_heap hw.2];rfl
 have m2:M ⟨pb,1,none⟩=some (.int .i64 (j:Int)):=hM _ _ fun w' hw=>by rw[Lib.cell_of_heap hw.2];rfl
 clear hM
 simp only[qcmp]
 simp (maxSteps:=9^7) only[↓qpre,aAb,aAe,aAc,m0,m1,m2]
 clear m0 m1 m2
 have hba:Below W.heap.size W (W.drew.alloc (.cells #[.int .i64 (i:Int),.int .i64 (j:Int)] 234)):=(Below.refl _ _).drew.alloc (Nat.le_refl _) _
 have HP1:=hid (HP.out.below hba)
 have HBX1:=hid ((hba.block pb (aAa HBX.out)).trans HBX.out)
 have HLI:=hid (bIa W.drew W.drew.heap.size i j rfl)
 refine T.eff_lits (aMa bBm _ _ _) rfl ⟨hT _ ⟨HP1.out.hs,HBX1.out⟩,?_⟩
 simp (maxSteps:=9^7) only[aAb,aAc]
 clear HP HBX hba
 generalize W.drew.alloc (.cells #[.int .i64 (i:Int),.int .i64 (j:Int)] 234)=V at *
 refine aAw bBm (base:=w0.heap.size) (n:=ps.length) rfl rfl HP1.out.o1 HLI.out (bCy _) (by unfold maxLen;omega) (by omega) HP1.out.bel.size ?_
 intro v7 V5 ho7 hg7 hv7
 obtain ⟨A7,c7,rfl,hc7⟩:=aAd ho7
 have HPo:=hid (HP1.out.push (q:=(i,j)) hg7 ho7 hv7)
 have HBX2:=hid ((hg7.block pb (aAa HBX1.out) (fun e=>HPO.out e.symm)).trans HBX1.out)
 refine ⟨hT _ ⟨HPo.out.hs,HBX2.out⟩,?_⟩
 simp (maxSteps:=9^7) only[↓qpre,aAb,aAe,aAc]
 refine hQ _ _ ?_
 simp only[lates,List.map,qcmp]
 simp (maxSteps:=9^7) only[aAb]
 refine aBi (v:=.slice A7 (ps.length+1) c7) (b:=sb) (o:=5) (by kernel_rfl) rfl rfl (by rw[Lib.cell_of_heap HPo.out.hs];rfl) (aAk HPo.out.hs) rfl ⟨trivial,?_⟩
 simp (maxSteps:=9^7) only[aAb]
 refine hQ2 _ _ ?_
 have HP2:=hid HPo.out.set
 have HBX3:=hid ((Below.heap_setCell V5 ⟨sb,5,none⟩ (.slice A7 (ps.length+1) c7) pb HPS.out).trans HBX2.out)
 clear hQ hQ2 hT hT' HP1 HBX1 HBX2 HLI HPo ho7 hg7 hv7
 generalize V5.setCell ⟨sb,5,none⟩ (.slice A7 (ps.length+1) c7)=V6 at *
 obtain ⟨r,cap,cur,rfl,hrB,hrg,hrn,hrm,hrs,hrt⟩:=bEr HP2.out.f1 HFE.out
 have hpr:pb≠r:=fun e=>HPF.out (by rw[e];rfl)
 have K1:=aSc (q1:=.pointer (some ⟨pb,0,none⟩)) (fun x=>decide (x=i)) (w:=V6) (by omega) hrg hrn hrm hrs hrt rfl
  (fun x u hu=>bCt (by rw[Lib.cell_of_heap ((hu.block pb (aAa HBX3.out) (fun e=>by injection e with e;exact hpr e)).trans HBX3.out)];rfl))
 have d1:V6.cell? ⟨sb,2,none⟩=some (.slice (some ⟨r,0,none⟩) is.length cap):=by rw[Lib.cell_of_heap HP2.out.hs];rfl
 clear hrg hrt hrs
 go_wp2_with fail
 refine K1.mono ?_
 rintro e V7 ⟨m7,cur7,rfl,hm7,hm7n,hg8,hs8,ht8,hgr8⟩
 have HF7:=hid (HP2.out.inF (r:=r) rfl hgr8 (bHt hrB hg8 (by omega) hrm hs8 ht8 hm7) (fun g hg=>hg))
 have HBX4:=hid ((hgr8.block pb (aAa HBX3.out) (fun e=>by injection e with e;exact hpr e)).trans HBX3.out)
 have HBX5:=hid ((Below.heap_setCell V7 ⟨sb,2,none⟩ (.slice (some ⟨r,0,none⟩) m7 cap) pb HPS.out).trans HBX4.out)
 have hsb7:V7.heap[sb]? = V6.heap[sb]?:=hgr8.block sb (aAa HP2.out.hs) (fun e=>HP2.out.nf (by rw[e];rfl))
 have d2:V7.cell? ⟨sb,2,none⟩=some (.slice (some ⟨r,0,none⟩) is.length cap):=by rw[Lib.cell_of_heap (hsb7.trans HP2.out.hs)];rfl
 have d3:V7.frozen? ⟨sb,2,none⟩=false:=aAk (hsb7.trans HP2.out.hs)
 obtain ⟨r2,cap2,cur2,rfl,hrB2,hrg2,hrn2,hrm2,hrs2,hrt2⟩:=bEr HF7.out.t1 HTE.out
 have hpr2:pb≠r2:=fun e=>HPT.out (by rw[e];rfl)
 have K2:=bAs (q1:=.pointer (some ⟨pb,0,none⟩)) (fun x=>decide (x=j)) (w:=V7.setCell ⟨sb,2,none⟩ (.slice (some ⟨r,0,none⟩) m7 cap)) (by omega) hrg2 hrn2 hrm2 hrs2 hrt2 rfl
  (fun x u hu=>bBe (by rw[Lib.cell_of_heap ((hu.block pb (aAa HBX5.out) (fun e=>by injection e with e;exact hpr2 e)).trans HBX5.out)];rfl))
 have d4:(V7.setCell ⟨sb,2,none⟩ (.slice (some ⟨r,0,none⟩) m7 cap)).cell? ⟨sb,3,none⟩=some (.slice (some ⟨r2,0,none⟩) js.length cap2):=by rw[Lib.cell_of_heap HF7.out.hs];rfl
 clear K1 d1 hrg2 hrt2 hrs2 hg8 hs8 ht8 hgr8 hsb7 HP2 HBX3 HBX4
 go_wp2_with fail
 refine K2.mono ?_
 rintro e V8 ⟨m8,cur8,rfl,hm8,hm8n,hg9,hs9,ht9,hgr9⟩
 have HF8:=hid (HF7.out.inT (r:=r2) rfl hgr9 (bHt hrB2 hg9 (by omega) hrm2 hs9 ht9 hm8) (fun g hg=>hg))
 have hsb8:=(hgr9.block sb (aAa HF7.out.hs) (fun e=>HF7.out.nt (by rw[e];rfl))).trans HF7.out.hs
 have d5:V8.cell? ⟨sb,3,none⟩=some (.slice (some ⟨r2,0,none⟩) js.length cap2):=by rw[Lib.cell_of_heap hsb8];rfl
 have d6:V8.frozen? ⟨sb,3,none⟩=false:=aAk hsb8
 clear K2 d2 d3 d4 hg9 hs9 ht9 hgr9 hsb8 HF7
 go_wp2
 refine bodyPost_end (results_none rfl _ _ _) rfl ?_
 rw[<-aWe,<-aWe]
 exact ⟨rfl,_,_,_,HF8.out⟩
structure Two (w0:World) (bs ss:Value) (base side:List FV):Prop where
 ex:∃A n ca B m cb,bs=.slice A n ca/\ss=.slice B m cb/\RdF w0 w0.heap.size A n ca base/\RdF w0 w0.heap.size B m cb side/\n<=100000/\m<=100000
theorem aHv {l:List FV}{i:Nat}{f:FV}(h:l[i]? = some f):textAt l i=f.text:=by simp[textAt,h]
theorem bBf {w0 u:World}{sx ix sb i j:Nat}{bs ss f t m o:Value}{base side:List FV}(T2:Two w0 bs ss base side)(hb:Below w0.heap.size w0 u)(hi:i<base.length)(hj:j<side.length)
  (k0:u.cell? ⟨sx,0,none⟩=some (.pointer (some ⟨sb,0,none⟩))) (k1:u.cell? ⟨ix,0,none⟩=some (.int .i64 (i:Int))) (ks:u.heap[sb]? = some (.cells #[bs,ss,f,t,m,o] 231 (0,0))) (_hsx:sx<u.heap.size) (_hix:ix<u.heap.size) :
  Calls Tryz.prog 207 #[.int .i64 (j:Int),.pointer (some ⟨sx,0,none⟩),.pointer (some ⟨ix,0,none⟩)] u fun e w'=>e=.returned (.bool (decide (textAt side j=textAt base i)))/\Below u.heap.size u w':=by
 obtain ⟨A,n,ca,B,mm,cb,rfl,rfl,ha,hs,hn,hm⟩:=T2.ex
 rw[ha.len] at hi
 rw[hs.len] at hj
 obtain ⟨b0,o0,x,rfl,hbb,hx,hxm,_,_,p2⟩:=ha.get hi
 obtain ⟨b1,o1,y,rfl,hbb1,hy,hym,_,_,q2⟩:=hs.get hj
 rw[aHv hx,aHv hy]
 have hw0:=hb.size
 replace p2:=(hb.cell (p:=⟨b0,o0+i*3+2,none⟩) hbb).trans p2
 replace q2:=(hb.cell (p:=⟨b1,o1+j*3+2,none⟩) hbb1).trans q2
 have hsb:=aAa ks
 have s0:u.cell? ⟨sb,0,none⟩=some (.slice (some ⟨b0,o0,none⟩) n ca):=by rw[Lib.cell_of_heap ks];rfl
 have s1:u.cell? ⟨sb,1,none⟩=some (.slice (some ⟨b1,o1,none⟩) mm cb):=by rw[Lib.cell_of_heap ks];rfl
 clear hx hy hxm hym ha hs T2
 go_enter Tryz.func207,Tryz.ntmps207
 go_wp2
 refine aAh (fun w'=>∀p:Addr,w'.cell? p=u.cell? p) (qs 18) mixed (by kernel_rfl) (fun p=>rfl) ?_
 intro Tp M Q hT hT' hM hQ
 have m0:M ⟨sx,0,none⟩=some (.pointer (some ⟨sb,0,none⟩)):=hM _ _ fun w' hw=>(hw _).trans k0
 have m1:M ⟨ix,0,none⟩=some (.int .i64 (i:Int)):=hM _ _ fun w' hw=>(hw _).trans k1
 have m2:M ⟨sb,0,none⟩=some (.slice (some ⟨b0,o0,none⟩) n ca):=hM _ _ fun w' hw=>(hw _).trans s0
 have m3:M ⟨sb,1,none⟩=some (.slice (some ⟨b1,o1,none⟩) mm cb):=hM _ _ fun w' hw=>(hw _).trans s1
 have m4:M ⟨b0,o0+i*3+2,none⟩=some (.string x.text):=hM _ _ fun w' hw=>(hw _).trans p2
 have m5:M ⟨b1,o1+j*3+2,none⟩=some (.string y.text):=hM _ _ fun w' hw=>(hw _).trans q2
 clear hM
 simp only[qcmp]
 by_cases hq:y.text=x.text
 ·have e1:(y.text.toList == x.text.toList)=true:=by rw[hq];exact beq_self_eq_true _
  simp (maxSteps:=9^7) only[↓qpre,aAb,aAe,aAc,m0,m1,m2,m3,m4,m5]
  (repeat refine And.intro (by first|omega|(unfold inI64;omega)) ?_)
  refine hQ _ _ ?_
  clear hQ hT hT' m0 m1 m2 m3 m4 m5 e1
  rw[decide_eq_true hq]
  have HQ:=hid hq
  clear hq
  go_wp2
  go_ret
  exact ⟨by first | rfl | simp[HQ.out],(Below.refl _ _).drew⟩
 have e1:=aBw hq
 simp (maxSteps:=9^7) only[↓qpre,aAb,aAe,aAc,m0,m1,m2,m3,m4,m5]
 (repeat refine And.intro (by first|omega|(unfold inI64;omega)) ?_)
 refine hQ _ _ ?_
 clear hQ hT hT' m0 m1 m2 m3 m4 m5
 rw[decide_eq_false hq]
 go_wp2
 go_ret
 exact ⟨by first | rfl | simp[hq],(Below.refl _ _).drew⟩
theorem bAp {p:Nat->Bool}{l:List Nat}{j x:Nat}(hx:l[j]? = some x)(hp:p x=true)(hl:∀(i y:Nat),i<j->l[i]? = some y->p y=false):l.find? p=some x:=by
 induction l generalizing j with
 | nil=>cases hx
 | cons a l ih=>
  cases j with
  | zero=>cases hx;simp[hp]
  | succ j=>
   rw[List.find?_cons,hl 0 a (by omega) rfl]
   exact ih hx fun i y hi hy=>hl (i+1) y (by omega) hy
theorem aYb {p:Nat->Bool}{l:List Nat}(h:∀x∈l,p x=false):l.find? p=none:=List.find?_eq_none.2 fun x hx=>by simp[h x hx]
structure SameAt (base side:List FV) (is js:List Nat) (ps:List (Nat×Nat)) (k:Nat) (is' js':List Nat) (ps':List (Nat×Nat)):Prop where
 left:∃l,is'=l++is.drop k/\l++(sameF base side (is.drop k) js').2.1=(sameF base side is js).2.1
 nd:is'.Nodup
 pairs:ps'++(sameF base side (is.drop k) js').1=ps++(sameF base side is js).1
 right:(sameF base side (is.drop k) js').2.2=(sameF base side is js).2.2
 sub:∀j∈js',j∈js
 n1:is'.length<=is.length
 n2:js'.length<=js.length
 n3:ps'.length<=ps.length+k
section
variable {base side:List FV} {is js:List Nat} {ps:List (Nat×Nat)} {k:Nat} {is' js':List Nat} {ps':List (Nat×Nat)}
theorem SameAt.start (hn:is.Nodup):SameAt base side is js ps 0 is js ps:=⟨⟨[],by simp,by simp⟩,hn,by simp,by simp,fun _ h=>h,Nat.le_refl _,Nat.le_refl _,by omega⟩
theorem SameAt.mem (h:SameAt base side is js ps k is' js' ps'){i:Nat}(hi:is[k]? = some i):i∈is':=by
 obtain ⟨⟨l,rfl,_⟩,_⟩:=h
 obtain ⟨h1,rfl⟩:=List.getElem?_eq_some_iff.1 hi
 rw[List.drop_eq_getElem_cons h1];exact List.mem_append_right _ List.mem_cons_self
theorem SameAt.skip (h:SameAt base side is js ps k is' js' ps'){i:Nat}(hi:is[k]? = some i)(hf:js'.find? (fun j=>decide (textAt side j=textAt base i))=none):SameAt base side is js ps (k+1) is' js' ps':=by
 obtain ⟨⟨l,h1,h2⟩,a,b,c,d,e,f,g⟩:=h
 obtain ⟨hk,rfl⟩:=List.getElem?_eq_some_iff.1 hi
 rw[List.drop_eq_getElem_cons hk] at h1 h2 b c
 rw[sameF,hf] at h2 b c
 dsimp only at h2 b c
 exact ⟨⟨l++[is[k]],by rw[h1,List.append_assoc];rfl,by rw[<-h2,List.append_assoc];rfl⟩,a,b,c,d,e,f,by omega⟩
theorem SameAt.take (h:SameAt base side is js ps k is' js' ps'){i j:Nat}(hi:is[k]? = some i)(hf:js'.find? (fun j=>decide (textAt side j=textAt base i))=some j) :
  SameAt base side is js ps (k+1) (is'.filter fun k=>decide (k≠i)) (js'.filter fun k=>decide (k≠j)) (ps'++[(i,j)]):=by
 obtain ⟨⟨l,h1,h2⟩,a,b,c,d,e,f,g⟩:=h
 obtain ⟨hk,rfl⟩:=List.getElem?_eq_some_iff.1 hi
 rw[List.drop_eq_getElem_cons hk] at h1 h2 b c
 rw[sameF,hf] at h2 b c
 dsimp only at h2 b c
 subst h1
 have hnl:is[k]∉l:=fun hm=>(List.nodup_append.1 a).2.2 _ hm _ List.mem_cons_self rfl
 have hnr:is[k]∉is.drop (k+1):=(List.nodup_cons.1 (List.nodup_append.1 a).2.1).1
 have hF:(l++is[k]::is.drop (k+1)).filter (fun x=>decide (x≠is[k]))=l++is.drop (k+1):=by
  rw[List.filter_append,List.filter_cons,List.filter_eq_self.2 (fun x hx=>by simp;rintro rfl;exact hnl hx),List.filter_eq_self.2 (fun x hx=>by simp;rintro rfl;exact hnr hx)]
  simp
 refine ⟨⟨l,hF,h2⟩,a.filter _,by rw[<-b];simp,c,fun x hx=>d x (List.mem_filter.1 hx).1,Nat.le_trans (List.length_filter_le _ _) e,Nat.le_trans (List.length_filter_le _ _) f,by simp;omega⟩
theorem SameAt.done (h:SameAt base side is js ps is.length is' js' ps'):is'=(sameF base side is js).2.1/\js'=(sameF base side is js).2.2/\ps'=ps++(sameF base side is js).1:=by
 obtain ⟨⟨l,h1,h2⟩,a,b,c,d,e,f,g⟩:=h
 rw[List.drop_length,sameF] at h2 b c
 rw[List.drop_length] at h1
 exact ⟨by rw[h1];exact h2,c,by rw[<-b];simp⟩
end
theorem Sr.moreZ {w0 w w':World}{sb m:Nat}{bs ss:Value}{is js:List Nat}{ps:List (Nat×Nat)}{G:GT}{Z Y:Nat->Obj->Prop}(h:Sr w0 w sb m bs ss is js ps G Z)(hb:Below w.heap.size w w')(hY:∀k ob,Y k ob->w'.heap[k]? = some ob/\w.heap.size<=k) :
  Sr w0 w' sb m bs ss is js ps G fun k ob=>Z k ob\/Y k ob:=by
 obtain ⟨f,t,o,h⟩:=h
 have h':=h.below hb
 refine ⟨f,t,o,h'.hs,h'.f1,h'.t1,h'.o1,h'.nf,h'.nt,h'.no,h'.nft,h'.nfo,h'.nto,h'.mp,h'.lo,h'.bel,fun k ob hk=>?_⟩
 rcases hk with hk | hk
 ·exact h'.oth k ob hk
 obtain ⟨h1,h2⟩:=hY k ob hk
 refine ⟨h1,fun e=>?_,fun e=>?_,fun e=>?_,fun e=>?_⟩
 ·have:=aAa h.hs;omega
 ·have:=(h.f1.lt _ e).2;omega
 ·have:=(h.t1.lt _ e).2;omega
 have:=(h.o1.lt _ e).2;omega
theorem aFw {w:World}{B n:Nat}{v:Value}{l:List Nat}(h:w.ownsRow B 3 1 v n (natsV l)) :
  ∃A c,v=.slice A n c/\∀(k x:Nat),l[k]? = some x->∃g cur,A=some ⟨g,0,none⟩/\B<=g/\w.heap[g]? = some (.cells cur 3 (0,0))/\cur[k]? = some (.int .i64 (x:Int)):=by
 rcases h with ⟨h0,⟨rfl,rfl⟩ | ⟨g,cap,cur,rfl,h1,h2,h3,h4,h5,h6⟩⟩
 ·refine ⟨none,0,rfl,fun k x hx=>?_⟩
  have:l=[]:=List.length_eq_zero_iff.1 (by rw[aCs] at h0;omega)
  subst this;cases hx
 refine ⟨_,_,rfl,fun k x hx=>⟨g,cur,rfl,h1,h2,?_⟩⟩
 have hv:(natsV l)[k]? = some (.int .i64 (x:Int)):=by unfold natsV;rw[List.getElem?_map,hx];rfl
 have:=aAy (by simpa using h6) hv
 simpa using this
theorem bAo {B:Nat}{v:Value}{l:List Nat}{w:World}(hn:l.length<=1000000)(h:w.ownsRow B 3 1 v l.length (natsV l)) :
  Calls Tryz.prog 206 #[v] w (NatsIs l w):=by
 rcases h with ⟨h0,⟨rfl,hl⟩ | ⟨g,cap,cur,rfl,h1,h2,h3,h4,h5,h6⟩⟩
 ·refine (Tryz.slices_Clone_int_nil 0 0 w).mono ?_
  rintro e w' ⟨rfl,rfl⟩
  have:l=[]:=List.length_eq_zero_iff.1 hl
  subst this
  exact ⟨_,rfl,World.ownsRow_nil _ _ _ _,Below.refl _ _⟩
 refine (Tryz.slices_Clone_int g 0 l.length cap (l.map fun i:Nat=>(i:Int)) w (by simp) (by omega) (fun j hj=>?_)).mono ?_
 ·rw[List.length_map] at hj
  have hv:(natsV l)[j]? = some (.int .i64 ((l[j]:Nat):Int)):=by unfold natsV;rw[List.getElem?_map,List.getElem?_eq_getElem hj];rfl
  have:=aAy (by simpa using h6) hv
  rw[Nat.zero_add,cell_of_row w _ _ _ _ _ h2]
  simp only[List.getD_eq_getElem?_getD,List.getElem?_map,List.getElem?_eq_getElem hj]
  simpa using this
 rintro e w' ⟨v,rfl,h7,_,h8⟩
 refine ⟨v,rfl,?_,h8⟩
 rw[List.take_of_length_le (by simp),List.map_map] at h7
 exact h7
def SameR (base side:List FV)(w0 wr:World)(sb m:Nat)(bs ss:Value)(is js:List Nat)(ps:List (Nat×Nat))(G:GT)(Z:Nat->Obj->Prop)(k:Nat):Prop:=
 ∃is' js' ps',Sr w0 wr sb m bs ss is' js' ps' G Z/\SameAt base side is js ps k is' js' ps'
theorem aLw (x y:Int)(w:World):(Instr.build 234 #[(0,.int .i64 x),(1,.int .i64 y)]).run Tryz.prog w=.ok (.agg #[.int .i64 x,.int .i64 y]) w:=by
 go_simp
theorem bHd {w0 w:World}{sb m:Nat}{bs ss:Value}{is js:List Nat}{ps:List (Nat×Nat)}{G:GT}{Z:Nat->Obj->Prop}{base side:List FV}(h:Sr w0 w sb m bs ss is js ps G Z)(T2:Two w0 bs ss base side)
  (hl1:is.length<=100000) (hl2:js.length<=100000) (hl3:ps.length+is.length<=100000) (hi:∀i∈is,i<base.length) (hj:∀j∈js,j<side.length) (hn:is.Nodup) :
  Calls Tryz.prog 170 #[.pointer (some ⟨sb,0,none⟩)] w fun e w'=>e=.returned (.tuple #[])/\Sr w0 w' sb m bs ss (sameF base side is js).2.1 (sameF base side is js).2.2 (ps++(sameF base side is js).1) G Z:=by
 have hW:Below w.heap.size w (w.alloc (.cells #[.pointer (some ⟨sb,0,none⟩)] 226)):=(Below.refl _ _).alloc (Nat.le_refl _) _
 have HB:=hid (heap_alloc_new w (.cells #[.pointer (some ⟨sb,0,none⟩)] 226))
 have H1:=hid (h.below hW)
 have HW:=hid hW
 have HH:=hid h
 have HI:=hid hi
 have HJ:=hid hj
 have HN:=hid hn
 have HT:=hid T2
 clear h hW hi hj hn T2
 obtain ⟨f1,t1,o1,hp⟩:=H1.out
 have KC:=bAo (by omega) hp.f1
 have k0:(w.alloc (.cells #[.pointer (some ⟨sb,0,none⟩)] 226)).cell? ⟨w.heap.size,0,none⟩=some (.pointer (some ⟨sb,0,none⟩)):=by rw[Lib.cell_of_heap HB.out];rfl
 have k2:(w.alloc (.cells #[.pointer (some ⟨sb,0,none⟩)] 226)).cell? ⟨sb,2,none⟩=some f1:=by rw[Lib.cell_of_heap hp.hs];rfl
 clear hp
 go_enter Tryz.func170,Tryz.ntmps170
 go_wp2_with fail
 refine KC.mono ?_
 rintro e w1 ⟨v,rfl,ho,hb1⟩
 clear KC k0 k2
 obtain ⟨A,c,rfl,hcl⟩:=aFw ho
 have hw:w.heap.size<(w.alloc (.cells #[.pointer (some ⟨sb,0,none⟩)] 226)).heap.size:=by simp
 have hsx:w1.heap[w.heap.size]? = some (.cells #[.pointer (some ⟨sb,0,none⟩)] 226 (0,0)):=(hb1.block _ hw).trans HB.out
 have H2:=hid (HH.out.moreZ (HW.out.trans (hb1.mono HW.out.size)) (Y:=fun k ob=>w.heap.size<=k/\w1.heap[k]? = some ob) (fun k ob hk=>⟨hk.2,hk.1⟩))
 have HCL:=hid hcl
 have HSX:=hid hsx
 have HNW:=hid (Nat.le_of_lt hw)
 clear ho hb1 hcl hsx hw H1 HB HW HH
 go_wp2
 go_loopw[11] (fun i wr=>∃k:Nat,k<=is.length/\i=.int .i64 k/\Hid (SameR base side w0 wr sb m bs ss is js ps G (fun k ob=>Z k ob\/(w.heap.size<=k/\w1.heap[k]? = some ob)) k)) (fun i _=>is.length-(intOf i).toNat)
 case atStart=>exact ⟨0,Nat.zero_le _,rfl,hid ⟨_,_,_,H2.out,SameAt.start HN.out⟩⟩
 obtain ⟨k,hk,rfl,HR⟩:=hrel
 obtain ⟨is',js',ps',hr,ha⟩:=HR.out
 by_cases hlt:k<is.length
 ·have hx:=List.getElem?_eq_getElem hlt
  generalize is[k]=i at hx
  obtain ⟨g,cur,rfl,hg,hgc,hcx⟩:=HCL.out k i hx
  have hb2:=(Below.refl wr.heap.size wr).alloc (Nat.le_refl _) (.cells #[.int .i64 (i:Int)] 3)
  have hz:=hr.more hb2 (heap_alloc_new wr (.cells #[.int .i64 (i:Int)] 3)) (Nat.le_refl _)
  obtain ⟨f2,t2,o2,hp0⟩:=id hr
  have c0:wr.cell? ⟨g,k,none⟩=some (.int .i64 (i:Int)):=by
   rw[Lib.cell_of_heap (hp0.oth g _ (.inr ⟨Nat.le_trans HNW.out hg,hgc⟩)).1];exact hcx
  clear hp0 f2 t2 o2
  obtain ⟨f2,t2,o2,hp⟩:=id hz
  obtain ⟨B,cb,rfl,hnt⟩:=aAd hp.t1
  have hjl:js'.length<=100000:=Nat.le_trans ha.n2 hl2
  have hsxz:=(hp.oth w.heap.size _ (.inl (.inr ⟨Nat.le_refl _,HSX.out⟩))).1
  have hixz:=(hp.oth wr.heap.size _ (.inr ⟨rfl,rfl⟩)).1
  have KI:=aVq (q1:=.pointer (some ⟨w.heap.size,0,none⟩)) (q2:=.pointer (some ⟨wr.heap.size,0,none⟩)) (fun j=>decide (textAt side j=textAt base i)) (by omega) (Rd.of_own hp.t1 hnt)
   (fun j u hju hu=>bBf HT.out (hp.bel.trans (hu.mono hp.bel.size)) (HI.out i (List.mem_of_getElem? hx)) (HJ.out j (ha.sub j hju))
    (by rw[Lib.cell_of_heap ((hu.block _ (aAa hsxz)).trans hsxz)];rfl) (by rw[Lib.cell_of_heap ((hu.block _ (aAa hixz)).trans hixz)];rfl) ((hu.block _ (aAa hp.hs)).trans hp.hs)
    (Nat.lt_of_lt_of_le (aAa hsxz) hu.size) (Nat.lt_of_lt_of_le (aAa hixz) hu.size))
  have c1:(wr.alloc (.cells #[.int .i64 (i:Int)] 3)).cell? ⟨w.heap.size,0,none⟩=some (.pointer (some ⟨sb,0,none⟩)):=by rw[Lib.cell_of_heap hsxz];rfl
  have c2:(wr.alloc (.cells #[.int .i64 (i:Int)] 3)).cell? ⟨sb,3,none⟩=some (.slice B js'.length cb):=by rw[Lib.cell_of_heap hp.hs];rfl
  have HP:=hid hp
  have HA:=hid ha
  have HX:=hid hx
  have HGC:=hid hgc
  have HCX:=hid hcx
  clear hz hp ha hx hsxz hixz hnt hgc hcx hr HR
  go_wp2_with fail
  refine KI.mono ?_
  rintro e w2 ⟨q,rfl,hq,hb3⟩
  have HP2:=hid (HP.out.below hb3)
  have HQ:=hid hq
  have HB3:=hid hb3
  clear KI c0 c1 c2 hq hb3 HP
  rcases HQ.out with ⟨rfl,hno⟩ | ⟨j,x,rfl,hxj,hpx,hbf⟩
  ·have HN2:=hid (HA.out.skip HX.out (aYb hno))
   have HS2:=hid (Sr.weaken (Z':=fun k ob=>Z k ob\/(w.heap.size<=k/\w1.heap[k]? = some ob)) ⟨_,_,_,HP2.out⟩ (fun k ob h=>.inl h))
   clear hno HP2 HA HX HQ
   go_wp2
   go_roundw
   case rel=>exact ⟨k+1,by omega,by go_num,hid ⟨_,_,_,HS2.out,HN2.out⟩⟩
   simp[intOf];omega
  have HN2:=hid (HA.out.take HX.out (bAp hxj hpx hbf))
  have hjm:x∈js':=List.mem_of_getElem? hxj
  have him:i∈is':=HA.out.mem HX.out
  obtain ⟨B2,cb2,eB,hB⟩:=aFw HP2.out.t1
  injection eB with eB1 _ eB2
  subst eB1
  obtain ⟨r,cur2,rfl,hr,hrc,hrx⟩:=hB j x hxj
  have hjlt:j<js'.length:=(List.getElem?_eq_some_iff.1 hxj).1
  have d0:w2.cell? ⟨r,j,none⟩=some (.int .i64 (x:Int)):=by rw[Lib.cell_of_heap hrc];exact hrx
  have d1:w2.cell? ⟨w.heap.size,0,none⟩=some (.pointer (some ⟨sb,0,none⟩)):=by rw[Lib.cell_of_heap (HP2.out.oth w.heap.size _ (.inl (.inr ⟨Nat.le_refl _,HSX.out⟩))).1];rfl
  have d2:w2.cell? ⟨wr.heap.size,0,none⟩=some (.int .i64 (i:Int)):=by rw[Lib.cell_of_heap (HP2.out.oth wr.heap.size _ (.inr ⟨rfl,rfl⟩)).1];rfl
  have d3:w2.cell? ⟨sb,3,none⟩=some (.slice (some ⟨r,0,none⟩) js'.length cb):=by rw[Lib.cell_of_heap HP2.out.hs];rfl
  have hl1':=HA.out.n1
  have hl2':=HA.out.n2
  have hl3':=HA.out.n3
  have KT:=aWl (Sr.below ⟨_,_,_,HP2.out⟩ (Below.refl w2.heap.size w2).drew) him hjm (by omega) (by omega) (by omega)
  clear hxj hpx hbf hB hrc hrx HP2 HA HX HQ hjm him
  generalize hw0:w.heap.size=sx at *
  generalize wr.heap.size=ix at *
  go_wp2
  refine aBf (fun w'=>∀p:Addr,w'.cell? p=w2.cell? p) [(true,0),(true,1),(true,2),(true,3),(true,4),(true,5),(true,6),(true,7),(true,8),(false,9)] [10] mixed (by kernel_rfl) (fun p=>rfl) ?_
  intro Tp M Q Q2 hT hT' hM hQ hQ2
  have m0:M ⟨r,j,none⟩=some (.int .i64 (x:Int)):=hM _ _ fun w' hw=>(hw _).trans d0
  have m1:M ⟨sx,0,none⟩=some (.pointer (some ⟨sb,0,none⟩)):=hM _ _ fun w' hw=>(hw _).trans d1
  have m2:M ⟨ix,0,none⟩=some (.int .i64 (i:Int)):=hM _ _ fun w' hw=>(hw _).trans d2
  have m3:M ⟨sb,3,none⟩=some (.slice (some ⟨r,0,none⟩) js'.length cb):=hM _ _ fun w' hw=>(hw _).trans d3
  clear hM
  simp only[qcmp]
  simp (maxSteps:=9^7) only[↓qpre,aAb,aAe,aAc,m0,m1,m2,m3]
  refine ⟨⟨by omega,by omega⟩,?_⟩
  refine aBz rfl (aLw _ _ _) ⟨hT _ (fun p=>rfl),?_⟩
  simp (maxSteps:=9^7) only[aAb,aAc]
  refine hQ _ _ ?_
  simp only[lates,List.map,qcmp]
  simp (maxSteps:=9^7) only[aAb]
  refine aAi (by kernel_rfl) KT rfl rfl ?_
  rintro e w3 ⟨rfl,hs3⟩
  refine ⟨_,rfl,trivial,?_⟩
  simp (maxSteps:=9^7) only[aAb]
  refine hQ2 _ _ ?_
  clear hQ hQ2 hT hT' m0 m1 m2 m3 KT d0 d1 d2 d3
  have HS2:=hid (hs3.weaken (Z':=fun k ob=>Z k ob\/(sx<=k/\w1.heap[k]? = some ob)) (fun k ob h=>.inl h))
  clear hs3
  subst hw0
  go_wp2
  go_roundw
  case rel=>exact ⟨k+1,by omega,by go_num,hid ⟨_,_,_,HS2.out,HN2.out⟩⟩
  simp[intOf];omega
 have hkn:k=is.length:=by omega
 subst hkn
 obtain ⟨rfl,rfl,rfl⟩:=ha.done
 have HF:=hid (hr.weaken (Z':=Z) (fun k ob h=>.inl h))
 clear hr ha
 go_wp2
 refine bodyPost_end (results_none rfl _ _ _) rfl ?_
 exact ⟨rfl,HF.out⟩
theorem MpQ.get {w:World}{b n:Nat}{D:DataW Value}{G:Nat->Nat->Option Nat}(h:MpQ w b n D G){x y:Nat}(hx:x<=1000000000)(hy:y<=1000000000) :
  (Instr.lookup 228 (.map (some b)) (.agg #[.int .i64 (x:Int),.int .i64 (y:Int)]) false).run Tryz.prog w=.ok (.int .i64 (((G x y).getD 0:Nat):Int)) w:=by
 obtain ⟨v,ps,hrun,hv⟩:=h.own.lookup KQ2 Tryz.underlying228 (Tryz.zeroValue3 w) (show Rv (.int .i64 0)=some (.held (.int .i64 0),[]) from rfl) (keyQ2 hx hy)
 rw[h.at_ x y hx hy] at hv
 have:v=.int .i64 (((G x y).getD 0:Nat):Int):=by
  have h1:(DataW.held v:DataW Value)=.held (.int .i64 (((G x y).getD 0:Nat):Int)):=by
   have:=hv
   simp only[Rv,Option.some.injEq,Prod.mk.injEq] at this
   exact this.1
  exact aGc h1
 rw[this] at hrun
 exact hrun
def AlikeG (base side:List FV)(is js:List Nat)(G:Nat->Nat->Option Nat):Prop:=∀i∈is,∀j∈js,((G i j).getD 0:Nat)=ratioF (textAt base i) (textAt side j)
def bstep (base side:List FV)(b:Option (Nat×Nat)×Int)(p:Nat×Nat):Option (Nat×Nat)×Int:=let r:=ratioF (textAt base p.1) (textAt side p.2);if b.2<r then (some p,r) else b
def foldB (base side:List FV)(l:List (Nat×Nat)):Option (Nat×Nat)×Int:=l.foldl (bstep base side) (none,49)
def rowB (is js:List Nat)(k:Nat):List (Nat×Nat):=(is.take k).flatMap fun i=>js.map fun j=>(i,j)
theorem bFg (base side:List FV)(is js:List Nat):bestF base side is js=(foldB base side (rowB is js is.length)).1:=by
 unfold bestF foldB rowB
 rw[List.take_of_length_le (Nat.le_refl _)]
 rfl
theorem aRu {is js:List Nat}{k i:Nat}(hi:is[k]? = some i):rowB is js (k+1)=rowB is js k++js.map fun j=>(i,j):=by
 unfold rowB
 rw[List.take_add_one,hi,List.flatMap_append];simp
def BestIs (st:Option (Nat×Nat)×Int)(x y:Nat)(mo:Int):Prop:=st.2=mo/\((st.1=none/\mo=49)\/(st.1=some (x,y)/\50<=mo))
theorem aOk (base side:List FV)(l:List (Nat×Nat))(p:Nat×Nat):foldB base side (l++[p])=bstep base side (foldB base side l) p:=by
 unfold foldB;rw[List.foldl_append];rfl
theorem aXg {base side:List FV}{b:Option (Nat×Nat)×Int}{i j:Nat}{mo r:Int}(h1:b.2=mo)(hr:ratioF (textAt base i) (textAt side j)=r):bstep base side b (i,j)=if mo<r then (some (i,j),r) else b:=by
 unfold bstep;rw[h1];simp only[hr]
theorem BestIs.more {base side:List FV}{l:List (Nat×Nat)}{x y i j:Nat}{mo r:Int}(h:BestIs (foldB base side l) x y mo)(hr:ratioF (textAt base i) (textAt side j)=r)(hl:mo<r):BestIs (foldB base side (l++[(i,j)])) i j r:=by
 obtain ⟨h1,h2⟩:=h
 rw[aOk,aXg h1 hr,if_pos hl]
 exact ⟨rfl,.inr ⟨rfl,by rcases h2 with ⟨_,h⟩ | ⟨_,h⟩<;>omega⟩⟩
theorem BestIs.same {base side:List FV}{l:List (Nat×Nat)}{x y i j:Nat}{mo r:Int}(h:BestIs (foldB base side l) x y mo)(hr:ratioF (textAt base i) (textAt side j)=r)(hl:¬mo<r):BestIs (foldB base side (l++[(i,j)])) x y mo:=by
 rw[aOk,aXg h.1 hr,if_neg hl]
 exact h
def BestRes (base side:List FV)(is js:List Nat)(w:World)(e:Ending) (w':World):Prop:=
 ∃(x y:Nat) (b:Bool),e=.returned (.tuple #[.agg #[.int .i64 (x:Int),.int .i64 (y:Int)],.bool b])/\bestF base side is js=(if b=true then some (x,y) else none)/\Below w.heap.size w w'
structure BestW (w wr:World) (x y:Nat):Prop where
 b0:wr.heap[w.heap.size]? = some (.cells #[.int .i64 0,.int .i64 0] 234 (0,0))
 b1:wr.heap[w.heap.size+1]? = some (.cells #[.int .i64 (x:Int),.int .i64 (y:Int)] 234 (0,0))
 bel:Below w.heap.size w wr
theorem BestW.set {w wr:World}{x y i j:Nat}(h:BestW w wr x y):BestW w (wr.setRow (w.heap.size+1) #[.int .i64 (i:Int),.int .i64 (j:Int)]) i j:=
 ⟨(by
   have:=setRow_other wr (w.heap.size+1) w.heap.size #[.int .i64 (i:Int),.int .i64 (j:Int)] (by omega)
   rw[this];exact h.b0),setRow_heap wr _ _ _ _ _ h.b1,aAj h.bel (by omega)⟩
theorem bGe {w0 w:World}{sb m:Nat}{bs ss:Value}{is js:List Nat}{ps:List (Nat×Nat)}{G:GT}{Z:Nat->Obj->Prop}{base side:List FV}(h:Sr w0 w sb m bs ss is js ps G Z)(hG:AlikeG base side is js G.1)
  (hl1:is.length<=100000) (hl2:js.length<=100000) (hi:∀i∈is,i<=100000) (hj:∀j∈js,j<=100000) :
  Calls Tryz.prog 210 #[.pointer (some ⟨sb,0,none⟩)] w (BestRes base side is js w):=by
 obtain ⟨f,t,o,hp⟩:=h
 have HG:=hid hG
 have HI:=hid hi
 have HJ:=hid hj
 have HP:=hid hp
 obtain ⟨A,ca,rfl,hca⟩:=aFw hp.f1
 obtain ⟨B,cb,rfl,hcb⟩:=aFw hp.t1
 have HF:=hid hca
 have HS:=hid hcb
 have HB:=hid (show BestW w ((w.alloc (.cells #[.int .i64 0,.int .i64 0] 234)).alloc (.cells #[.int .i64 0,.int .i64 0] 234)) 0 0 from
  ⟨(((Below.refl _ _).alloc (Nat.le_refl _) _).block _ (by simp)).trans (heap_alloc_new w _),by have:=heap_alloc_new (w.alloc (.cells #[.int .i64 0,.int .i64 0] 234)) (.cells #[.int .i64 0,.int .i64 0] 234);simpa using this,((Below.refl _ _).alloc (Nat.le_refl _) _).alloc (by simp) _⟩)
 have HSB:=hid (aAa hp.hs)
 have hsb2:=(HB.out.bel.block sb HSB.out).trans hp.hs
 have s0:((w.alloc (.cells #[.int .i64 0,.int .i64 0] 234)).alloc (.cells #[.int .i64 0,.int .i64 0] 234)).cell? ⟨sb,2,none⟩=some (.slice A is.length ca):=by rw[Lib.cell_of_heap hsb2];rfl
 clear hG hi hj hp hca hcb hsb2
 go_enter Tryz.func210,Tryz.ntmps210
 go_wp2
 go_loopw[5,17] (fun most i wr=>∃(k x y:Nat) (mo:Int),k<=is.length/\i=.int .i64 k/\most=.int .i64 mo/\Hid (BestW w wr x y)/\Hid (BestIs (foldB base side (rowB is js k)) x y mo)) (fun _ i _=>is.length-(intOf i).toNat)
 case atStart=>exact ⟨0,0,0,49,Nat.zero_le _,rfl,rfl,HB,hid ⟨rfl,.inl ⟨rfl,rfl⟩⟩⟩
 obtain ⟨k,x,y,mo,hk,rfl,rfl,HW,HM⟩:=hrel
 clear s0 HB
 by_cases hlt:k<is.length
 ·have hx:=List.getElem?_eq_getElem hlt
  generalize is[k]=i at hx
  obtain ⟨g,cur,rfl,_,hgc,hcx⟩:=HF.out k i hx
  have HX:=hid hx
  have him:=List.mem_of_getElem? hx
  have c0:wr.cell? ⟨g,k,none⟩=some (.int .i64 (i:Int)):=by
   rw[Lib.cell_of_heap ((HW.out.bel.block g (aAa hgc)).trans hgc)];exact hcx
  have c1:wr.cell? ⟨sb,3,none⟩=some (.slice B js.length cb):=by rw[Lib.cell_of_heap ((HW.out.bel.block sb HSB.out).trans HP.out.hs)];rfl
  clear hgc hcx hx
  have HMI:=hid him
  clear him
  go_wp2
  go_loopw[5,26] (fun most j wr=>∃(l x y:Nat) (mo:Int),l<=js.length/\j=.int .i64 l/\most=.int .i64 mo/\Hid (BestW w wr x y)/\Hid (BestIs (foldB base side (rowB is js k++(js.take l).map fun j=>(i,j))) x y mo)) (fun _ j _=>js.length-(intOf j).toNat)
  case atStart=>exact ⟨0,x,y,mo,Nat.zero_le _,rfl,rfl,HW,hid (by rw[List.take_zero,List.map_nil,List.append_nil];exact HM.out)⟩
  clear c0 c1 HW HM
  obtain ⟨l,x,y,mo,hl,rfl,rfl,HW,HM⟩:=hrel
  by_cases hlt2:l<js.length
  ·have hx:=List.getElem?_eq_getElem hlt2
   generalize js[l]=j at hx
   obtain ⟨g2,cur2,rfl,_,hgc,hcx⟩:=HS.out l j hx
   have hjm:=List.mem_of_getElem? hx
   obtain ⟨mn,D,hmp,_⟩:=HP.out.mp
   have hlk:=(hmp.below HW.out.bel).get (x:=i) (y:=j) (by have:=HI.out i HMI.out;omega) (by have:=HJ.out j hjm;omega)
   have HR:=hid (HG.out i HMI.out j hjm).symm
   have HT:=hid (show (js.take (l+1)).map (fun j=>(i,j))=(js.take l).map (fun j=>(i,j))++[(i,j)] by rw[List.take_add_one,hx];simp)
   generalize (G.1 i j).getD 0=r at *
   have d0:wr.cell? ⟨g2,l,none⟩=some (.int .i64 (j:Int)):=by
    rw[Lib.cell_of_heap ((HW.out.bel.block g2 (aAa hgc)).trans hgc)];exact hcx
   have d1:wr.cell? ⟨sb,4,none⟩=some (.map (some m)):=by rw[Lib.cell_of_heap ((HW.out.bel.block sb HSB.out).trans HP.out.hs)];rfl
   clear hgc hcx hx hmp hjm
   by_cases hmr:mo<(r:Int)
   ·have HM2:=hid (HM.out.more HR.out hmr)
    have HB1:=hid HW.out.b1
    have HW2:=hid (HW.out.set (i:=i) (j:=j))
    have hi2:(Tryz.prog.info? 234).map (·.size)=some 2:=by kernel_rfl
    clear HW
    go_wp2_with (refine wpList_store_row rfl 234 (.tmp 4) (.tmp 43) rfl (w.heap.size+1) #[.int .i64 (i:Int),.int .i64 (j:Int)] rfl rfl _ _ HB1.out hi2 rfl (by simp[Value.oneCell']) ?_)
    go_roundw
    case rel=>exact ⟨l+1,i,j,(r:Int),by omega,by go_num,rfl,HW2,hid (by rw[HT.out,<-List.append_assoc];exact HM2.out)⟩
    simp[intOf];omega
   have HM2:=hid (HM.out.same HR.out hmr)
   go_wp2
   go_roundw
   case rel=>exact ⟨l+1,x,y,mo,by omega,by go_num,rfl,HW,hid (by rw[HT.out,<-List.append_assoc];exact HM2.out)⟩
   simp[intOf];omega
  have hln:l=js.length:=by omega
  subst hln
  have HM2:Hid (BestIs (foldB base side (rowB is js (k+1))) x y mo):=by
   rw[aRu HX.out]
   have:=HM.out
   rw[List.take_of_length_le (Nat.le_refl _)] at this
   exact this
  clear HM
  go_wp2
  go_roundw
  case rel=>exact ⟨k+1,x,y,mo,by omega,by go_num,rfl,HW,HM2⟩
  simp[intOf];omega
 have hkn:k=is.length:=by omega
 subst hkn
 have hi2:(Tryz.prog.info? 234).map (·.size)=some 2:=by kernel_rfl
 have HB0:=hid HW.out.b0
 have HB1:=hid HW.out.b1
 have e0:wr.cell? ⟨w.heap.size+1,0,none⟩=some (.int .i64 (x:Int)):=by rw[Lib.cell_of_heap HB1.out];rfl
 have e1:wr.cell? ⟨w.heap.size+1,1,none⟩=some (.int .i64 (y:Int)):=by rw[Lib.cell_of_heap HB1.out];rfl
 have HR:=hid (setRow_heap wr w.heap.size _ #[.int .i64 (x:Int),.int .i64 (y:Int)] _ _ HB0.out)
 have HBB:=hid (aAj HW.out.bel (Nat.le_refl _) (cs:=#[.int .i64 (x:Int),.int .i64 (y:Int)]))
 have HE:=hid (show bestF base side is js=if decide (50<=mo)=true then some (x,y) else none by
  rw[bFg]
  rcases HM.out.2 with ⟨h1,h2⟩ | ⟨h1,h2⟩
  ·rw[h1,h2];rfl
  rw[h1,if_pos (decide_eq_true h2)])
 cases hd:decide (50<=mo)
 all_goals
  rw[hd] at HE
  go_wp2_with (refine wpList_store_row rfl 234 (.tmp 2) (.tmp 47) rfl w.heap.size #[.int .i64 (x:Int),.int .i64 (y:Int)] rfl rfl _ _ HB0.out hi2 rfl (by simp[Value.oneCell']) ?_)
  try simp only[Exit.inBlock,Exit.then]
  refine bodyPost_ret (aAm rfl _ _ w.heap.size _ _ (0,0) _ rfl HR.out Tryz.underlying234 rfl (by kernel_rfl)) rfl ?_
  exact ⟨x,y,_,rfl,HE.out,HBB.out⟩
theorem T.eff_mapUpdate {P:Program}{S:World->Prop}{a:Act} {w w':World}{K:Act->World->Prop}{dst:Option Tmp}{t ty:TypeId}{m x y:Operand}{q:Bool}{g:Option (Tmp×Bool)}{mv key val:Value}(hm:a.eval m=mv)(hx:a.eval x=key)(hy:a.eval y=val)
  (hrun:(Instr.mapUpdate t mv key val).run P w=.ok () w') (hK:S w'/\K (a.put dst undef) w'):effq P S ⟨q,dst,.mapUpdate t m x y,ty,g⟩ a w K:=by
 intro p af g
 unfold Oper.wp execOp
 simp only[hm,hx,hy,hrun,Sem.run_bind,Sem.run_pure,Result.andThen_ok]
 exact hK
def fillG (base side:List FV)(L:List (Nat×Nat))(x y:Nat):Option Nat:=if (x,y)∈L then some (ratioF (textAt base x) (textAt side y)).toNat else none
theorem bAg (base side:List FV)(L:List (Nat×Nat))(i j:Nat)(x y:Nat):fillG base side (L++[(i,j)]) x y=if x=i/\y=j then some (ratioF (textAt base i) (textAt side j)).toNat else fillG base side L x y:=by
 unfold fillG
 by_cases h:x=i/\y=j
 ·obtain ⟨rfl,rfl⟩:=h;simp
 rw[if_neg h]
 have:((x,y)∈L++[(i,j)])↔(x,y)∈L:=by
  simp only[List.mem_append,List.mem_singleton,Prod.mk.injEq]
  exact ⟨fun hh=>hh.resolve_right h,.inl⟩
 by_cases h2:(x,y)∈L
 ·rw[if_pos h2,if_pos (this.2 h2)]
 rw[if_neg h2,if_neg (fun q=>h2 (this.1 q))]
theorem aQy (a b:ByteArray):0<=ratioF a b:=by
 unfold ratioF
 dsimp only
 split
 ·exact Int.le_refl _
 split
 ·omega
 exact Int.natCast_nonneg _
theorem aTv {base side:List FV} {is js is' js':List Nat}(h1:∀i∈is',i∈is)(h2:∀j∈js',j∈js):AlikeG base side is' js' (fillG base side (rowB is js is.length)):=by
 intro i hi j hj
 unfold fillG
 rw[if_pos]
 ·rw[Option.getD_some,Int.toNat_of_nonneg (aQy _ _)]
 unfold rowB
 rw[List.take_of_length_le (Nat.le_refl _)]
 exact List.mem_flatMap.2 ⟨i,h1 i hi,List.mem_map.2 ⟨j,h2 j hj,rfl⟩⟩
theorem SP.put {w0 w:World}{sb m:Nat}{bs ss f t o:Value}{is js:List Nat}{ps:List (Nat×Nat)}{base side:List FV}{L:List (Nat×Nat)}{N i j:Nat}{Z:Nat->Obj->Prop}(h:SP w0 w sb m bs ss f t o is js ps (fillG base side L,N) Z)(hN:N<maxLen)(hm:w0.heap.size<=m)(hZ:∀ob,¬Z m ob)(hi:i<=1000000000)(hj:j<=1000000000) :
  ∃w',(Instr.mapUpdate 228 (.map (some m)) (.agg #[.int .i64 (i:Int),.int .i64 (j:Int)]) (.int .i64 (ratioF (textAt base i) (textAt side j)))).run Tryz.prog w=.ok () w'/\SP w0 w' sb m bs ss f t o is js ps (fillG base side (L++[(i,j)]),N+1) Z/\w.grownBy w' (some m):=by
 obtain ⟨n,D,hmp,hn⟩:=h.mp
 have hn':n<=N:=hn
 have hlt:n<maxLen:=Nat.lt_of_le_of_lt hn' hN
 have hrv:Rv (.int .i64 (((ratioF (textAt base i) (textAt side j)).toNat:Nat):Int))=some (.held (.int .i64 (((ratioF (textAt base i) (textAt side j)).toNat:Nat):Int)),[]):=rfl
 have hkq:=keyQ2 hi hj
 obtain ⟨w',hr,ho,hg⟩:=hmp.own.update KQ2 Tryz.underlying228 hlt hkq hrv
 rw[Int.toNat_of_nonneg (aQy _ _)] at hr
 have ne:∀{v:Value} {e:TypeId} {k nn:Nat} {xs:List Value},w.ownsRow w0.heap.size e k v nn xs->w'.ownsRow w0.heap.size e k v nn xs:=fun {v} {e} {k} {nn} {xs} hv=>by
  refine hv.kept hg ?_
  cases e:v.ownBlock with
  | none=>exact .inl rfl
  | some g=>
   obtain ⟨cs,hc⟩:=aOd hv e
   exact .inr (fun e2=>h.mne hc (by injection e2 with e2;exact e2.symm))
 refine ⟨w',hr,⟨(hg.block sb (aAa h.hs) (fun e=>by injection e with e;exact h.mne h.hs e.symm)).trans h.hs,ne h.f1,ne h.t1,ne h.o1,h.nf,h.nt,h.no,h.nft,h.nfo,h.nto,⟨_,_,hmp.put hi hj ho (bAg base side L i j),Nat.succ_le_succ hn'⟩,h.lo,h.bel.grown hg h.bel.size (fun g hg=>by injection hg with hg;omega),fun k ob hz=>⟨(hg.block k (aAa (h.oth k ob hz).1) (fun e=>by injection e with e;subst e;exact hZ ob hz)).trans (h.oth k ob hz).1,(h.oth k ob hz).2⟩⟩,hg⟩
theorem SP.atMost {w0 w:World}{sb m:Nat}{bs ss f t o:Value}{is js:List Nat}{ps:List (Nat×Nat)}{F:Nat->Nat->Option Nat} {N N':Nat}{Z:Nat->Obj->Prop}(h:SP w0 w sb m bs ss f t o is js ps (F,N) Z)(hN:N<=N'):SP w0 w sb m bs ss f t o is js ps (F,N') Z:=by
 obtain ⟨n,D,hmp,hn⟩:=h.mp
 exact ⟨h.hs,h.f1,h.t1,h.o1,h.nf,h.nt,h.no,h.nft,h.nfo,h.nto,⟨n,D,hmp,Nat.le_trans hn hN⟩,h.lo,h.bel,h.oth⟩
theorem aYe {base side:List FV}{is js:List Nat}{n:Nat}{p:Nat×Nat}(hn:is.length<=n)(h:bestF base side is js=some p) :
  ∃n2,alikeF base side n is js=p::alikeF base side n2 (is.filter fun k=>decide (k≠p.1)) (js.filter fun k=>decide (k≠p.2))/\(is.filter fun k=>decide (k≠p.1)).length<=n2/\(is.filter fun k=>decide (k≠p.1)).length<is.length:=by
 have hm:=(aPg h).1
 have hlt:(is.filter fun k=>decide (k≠p.1)).length<is.length:=by
  rcases Nat.lt_or_ge (is.filter fun k=>decide (k≠p.1)).length is.length with h1 | h1
  ·exact h1
  have h2:=List.length_filter_le (fun k=>decide (k≠p.1)) is
  have h3:=List.length_filter_eq_length_iff.1 (Nat.le_antisymm h2 h1) p.1 hm
  simp at h3
 cases n with
 | zero=>omega
 | succ n=>exact ⟨n,by rw[alikeF,h],by omega,hlt⟩
theorem bAd {base side:List FV}{is js:List Nat}{n:Nat}(h:bestF base side is js=none):alikeF base side n is js=[]:=by
 cases n with
 | zero=>rfl
 | succ n=>rw[alikeF,h]
def AlikeRes (base side:List FV)(w0:World)(sb m:Nat)(bs ss:Value)(is js:List Nat)(ps:List (Nat×Nat))(Z:Nat->Obj->Prop)(e:Ending) (w':World):Prop:=
 e=.returned (.tuple #[])/\∃is' js' G',Sr w0 w' sb m bs ss is' js' (ps++alikeF base side is.length is js) G' Z
def LeftR (base side:List FV)(w0 wr:World)(sb m:Nat)(bs ss:Value)(is js:List Nat)(ps:List (Nat×Nat))(Z:Nat->Obj->Prop):Prop:=
 ∃is' js' ps' n N,Sr w0 wr sb m bs ss is' js' ps' (fillG base side (rowB is js is.length),N) Z/\is'.length<=n/\ps'++alikeF base side n is' js'=ps++alikeF base side is.length is js/\(∀i∈is',i∈is)/\(∀j∈js',j∈js)/\is'.length<=is.length/\js'.length<=js.length/\ps'.length+is'.length<=ps.length+is.length
def leftN (sb:Nat)(w:World):Nat:=match w.cell? ⟨sb,2,none⟩ with | some (.slice _ n _)=>n | _=>0
theorem bBq {w0 w:World}{sb m:Nat}{bs ss:Value}{is js:List Nat}{ps:List (Nat×Nat)}{G:GT}{Z:Nat->Obj->Prop}(h:Sr w0 w sb m bs ss is js ps G Z):leftN sb w=is.length:=by
 obtain ⟨f,t,o,h⟩:=h
 obtain ⟨A,c,rfl,_⟩:=aAd h.f1
 unfold leftN
 rw[show w.cell? ⟨sb,2,none⟩=some (.slice A is.length c) by rw[Lib.cell_of_heap h.hs];rfl]
theorem bCe {w0 w:World}{sb m:Nat}{bs ss:Value}{is js:List Nat}{ps:List (Nat×Nat)}{Z:Nat->Obj->Prop}{base side:List FV}(h:Sr w0 w sb m bs ss is js ps (fillG base side [],0) Z)(T2:Two w0 bs ss base side)(hL:Lm w0)
  (hm:w0.heap.size<=m) (hZ:∀ob,¬Z m ob) (hbt:∀f∈base,f.text.size<=1000000) (hst:∀f∈side,f.text.size<=1000000)
  (_hl1:is.length<=100000) (hl2:js.length<=100000) (hl3:ps.length+is.length<=100000) (hi:∀i∈is,i<base.length) (hj:∀j∈js,j<side.length) :
  Calls Tryz.prog 171 #[.pointer (some ⟨sb,0,none⟩)] w (AlikeRes base side w0 sb m bs ss is js ps Z):=by
 have HH:=hid h
 have HI:=hid hi
 have HJ:=hid hj
 have HBT:=hid hbt
 have HST:=hid hst
 have HT2:=hid T2
 have HLM:=hid hL
 have HZ:=hid hZ
 have HM:=hid hm
 have HBL:Hid (base.length<=100000):=by obtain ⟨_,_,_,_,_,_,_,_,h1,h2,h3,h4⟩:=T2.ex;exact hid (by rw[h1.len];exact h3)
 have HSL:Hid (side.length<=100000):=by obtain ⟨_,_,_,_,_,_,_,_,h1,h2,h3,h4⟩:=T2.ex;exact hid (by rw[h2.len];exact h4)
 obtain ⟨f1,t1,o1,hp⟩:=id h
 obtain ⟨A,ca,rfl,_⟩:=aFw hp.f1
 obtain ⟨B,cb,rfl,_⟩:=aFw hp.t1
 have s0:w.cell? ⟨sb,2,none⟩=some (.slice A is.length ca):=by rw[Lib.cell_of_heap hp.hs];rfl
 have HP0:=hid hp
 clear h hi hj hbt hst T2 hL hp hZ hm HH
 go_enter Tryz.func171,Tryz.ntmps171
 go_wp2
 go_loopw[13] (fun i wr=>∃k:Nat,k<=is.length/\i=.int .i64 k/\Hid (SP w0 wr sb m bs ss (.slice A is.length ca) (.slice B js.length cb) o1 is js ps (fillG base side (rowB is js k),k*100000) Z)) (fun i _=>is.length-(intOf i).toNat)
 case atStart=>exact ⟨0,Nat.zero_le _,rfl,hid (by rw[Nat.zero_mul];exact HP0.out)⟩
 obtain ⟨k,hk,rfl,HR⟩:=hrel
 clear s0 HP0
 by_cases hlt:k<is.length
 ·have hx:=List.getElem?_eq_getElem hlt
  generalize is[k]=i at hx
  obtain ⟨A',ca',eA,hca⟩:=aFw HR.out.f1
  injection eA with eA1 _ eA2
  subst eA1
  obtain ⟨g,cur,rfl,_,hgc,hcx⟩:=hca k i hx
  have HX:=hid hx
  have HMI:=hid (List.mem_of_getElem? hx)
  have c0:wr.cell? ⟨g,k,none⟩=some (.int .i64 (i:Int)):=by rw[Lib.cell_of_heap hgc];exact hcx
  have c1:wr.cell? ⟨sb,3,none⟩=some (.slice B js.length cb):=by rw[Lib.cell_of_heap HR.out.hs];rfl
  clear hgc hcx hx hca eA2
  go_wp2
  go_loopw[22] (fun j wr=>∃l:Nat,l<=js.length/\j=.int .i64 l/\Hid (SP w0 wr sb m bs ss (.slice (some ⟨g,0,none⟩) is.length ca) (.slice B js.length cb) o1 is js ps (fillG base side (rowB is js k++(js.take l).map fun j=>(i,j)),k*100000+l) Z)) (fun j _=>js.length-(intOf j).toNat)
  case atStart=>exact ⟨0,Nat.zero_le _,rfl,hid (by rw[List.take_zero,List.map_nil,List.append_nil,Nat.add_zero];exact HR.out)⟩
  clear c0 c1 HR
  obtain ⟨l,hl,rfl,HR⟩:=hrel
  by_cases hlt2:l<js.length
  ·have hx:=List.getElem?_eq_getElem hlt2
   generalize js[l]=j at hx
   obtain ⟨B',cb',eB,hcb⟩:=aFw HR.out.t1
   injection eB with eB1 _ eB2
   subst eB1
   obtain ⟨g2,cur2,rfl,_,hgc,hcx⟩:=hcb l j hx
   have hjm:=List.mem_of_getElem? hx
   have HT:=hid (show (js.take (l+1)).map (fun j=>(i,j))=(js.take l).map (fun j=>(i,j))++[(i,j)] by rw[List.take_add_one,hx];simp)
   have d0:wr.cell? ⟨g2,l,none⟩=some (.int .i64 (j:Int)):=by rw[Lib.cell_of_heap hgc];exact hcx
   obtain ⟨E1,n1,cc1,E2,n2,cc2,rfl,rfl,hrb,hrs,hn1,hn2⟩:=HT2.out.ex
   have hib:=HI.out i HMI.out
   have hjs:=HJ.out j hjm
   rw[hrb.len] at hib
   rw[hrs.len] at hjs
   obtain ⟨b0,o0,x,rfl,hbb,hxb,hxm,_,_,p2⟩:=hrb.get hib
   obtain ⟨b1,o2,y,rfl,hbb1,hys,hym,_,_,q2⟩:=hrs.get hjs
   have HSP:=hid (HR.out.below (Below.refl wr.heap.size wr).drew)
   have HBW:=hid HR.out.bel
   have p0:=hid p2
   have q0:=hid q2
   have p2:=(HR.out.bel.cell (p:=⟨b0,o0+i*3+2,none⟩) hbb).trans p2
   have q2:=(HR.out.bel.cell (p:=⟨b1,o2+j*3+2,none⟩) hbb1).trans q2
   have HTX:=hid (aHv hxb)
   have HTY:=hid (aHv hys)
   have KR:=bCk (a:=x.text) (b:=y.text) (w:=wr.drew) (HLM.out.below HR.out.bel.drew HLM.out.lt) (HBT.out x hxm) (HST.out y hym)
   have HLT:=hid (And.intro (Nat.lt_of_lt_of_le hbb (Nat.le_refl w0.heap.size)) hbb1)
   have hsb:=HR.out.hs
   have hib:i<=1000000000:=by omega
   have hjs:j<=1000000000:=by omega
   clear hgc hcx hx hcb eB2 hjm hrb hrs hxb hys hxm hym hbb hbb1
   go_wp2
   refine aAv (fun w'=>Below w0.heap.size w0 w'/\w'.heap[sb]? = wr.heap[sb]?) (.q 0 (.q 1 (.q 2 (.q 3 (.q 4 (.q 5 (.b 6 (.q 7 (.q 8 (.q 9 (.q 10 (.q 11 (.q 12 (.q 13 (.q 14 (.q 15 (.q 16 (.q 17 (.q 18 (.q 19 (.q 20 (.q 21 (.q 22 (.one 23 (.one 24 .leaf))))))))))))))))))))))))) mixed (by kernel_rfl) ⟨HBW.out.drew,rfl⟩ ?_
   intro Tp M Q hT hT' hM hQ
   have m0:M ⟨sb,0,none⟩=some (.slice (some ⟨b0,o0,none⟩) n1 cc1):=hM _ _ fun w' hw=>by rw[Lib.cell_of_heap (hw.2.trans hsb)];rfl
   have m1:M ⟨sb,1,none⟩=some (.slice (some ⟨b1,o2,none⟩) n2 cc2):=hM _ _ fun w' hw=>by rw[Lib.cell_of_heap (hw.2.trans hsb)];rfl
   have m2:M ⟨sb,4,none⟩=some (.map (some m)):=hM _ _ fun w' hw=>by rw[Lib.cell_of_heap (hw.2.trans hsb)];rfl
   have m3:M ⟨b0,o0+i*3+2,none⟩=some (.string x.text):=hM _ _ fun w' hw=>(hw.1.cell (p:=⟨b0,o0+i*3+2,none⟩) HLT.out.1).trans p0.out
   have m4:M ⟨b1,o2+j*3+2,none⟩=some (.string y.text):=hM _ _ fun w' hw=>(hw.1.cell (p:=⟨b1,o2+j*3+2,none⟩) HLT.out.2).trans q0.out
   clear hM
   refine aDy ?_
   intro O hO
   have t0:=hO true 0
   have t1:=hO true 1
   have t2:=hO true 2
   have t3:=hO true 3
   have t4:=hO true 4
   have t5:=hO true 5
   have t6:=hO true 6
   have t7:=hO true 7
   have t8:=hO true 8
   have t9:=hO true 9
   have t10:=hO true 10
   have t11:=hO true 11
   have t12:=hO true 12
   have t13:=hO true 13
   have t14:=hO true 14
   have t15:=hO true 15
   have t16:=hO true 16
   have t17:=hO true 17
   have t18:=hO true 18
   have t19:=hO true 19
   have t20:=hO true 20
   have t21:=hO true 21
   have t22:=hO true 22
   have e23:=hO false 23
   have e24:=hO false 24
   simp only[qcmp] at t0 t1 t2 t3 t4 t5 t6 t7 t8 t9 t10 t11 t12 t13 t14 t15 t16 t17 t18 t19 t20 t21 t22 e23 e24
   clear hO
   simp (maxSteps:=9^7) only[↓wt_q,↓wt_b,t0,t1,t2,t3,t4,t5,t6,↓qpre,aAb,aAe,aAc,m2]
   refine aBp rfl (fun w=>aLw _ _ w) ?_
   simp (maxSteps:=9^7) only[↓wt_q,↓aAl,t7,t8,t9,t10,t11,t12,t13,t14,t15,t16,t17,t18,t19,t20,t21,t22,e23,↓qpre,aAb,aAe,aAc,m0,m1,m3,m4]
   (repeat refine And.intro (by first|omega|(unfold inI64;omega)) ?_)
   refine aAi (by kernel_rfl) KR rfl rfl ?_
   rintro e w2 ⟨rfl,hb2⟩
   have HS2:=hid (HSP.out.below hb2)
   have hS2:w2.heap[sb]? = wr.heap[sb]?:=hb2.block sb (aAa hsb)
   refine ⟨_,rfl,hT _ ⟨HS2.out.bel,hS2⟩,?_⟩
   simp (maxSteps:=9^7) only[↓aAl,e24,aAb,aAc]
   obtain ⟨w3,hrun,hs3,hg3⟩:=HS2.out.put (i:=i) (j:=j) (by unfold maxLen;omega) HM.out HZ.out (by omega) (by omega)
   rw[HTX.out,HTY.out] at hrun
   have hS3:w3.heap[sb]? = wr.heap[sb]?:=hs3.hs.trans hsb.symm
   refine T.eff_mapUpdate rfl rfl rfl hrun ⟨hT _ ⟨hs3.bel,hS3⟩,?_⟩
   simp (maxSteps:=9^7) only[aAb]
   refine hQ _ _ ?_
   have HS3:=hid hs3
   clear hQ hT hT' m0 m1 m2 m3 m4 hrun hs3 hg3 hS3 hS2 HS2 KR hsb p2 q2 d0 p0 q0 t7 t8 t9 t10 t11 t12 t13 t14 t15 t16 t17 t18 t19 t20 t21 t22 e23 e24
   go_wp2
   go_roundw
   case rel=>exact ⟨l+1,by omega,by go_num,hid (by rw[HT.out,<-List.append_assoc,<-Nat.add_assoc];exact HS3.out)⟩
   simp[intOf];omega
  have hln:l=js.length:=by omega
  subst hln
  have HS2:Hid (SP w0 wr sb m bs ss (.slice (some ⟨g,0,none⟩) is.length ca) (.slice B js.length cb) o1 is js ps (fillG base side (rowB is js (k+1)),(k+1)*100000) Z):=by
   rw[aRu HX.out]
   have:=HR.out
   rw[List.take_of_length_le (Nat.le_refl _)] at this
   exact this.atMost (by omega)
  clear HR
  go_wp2
  go_roundw
  case rel=>exact ⟨k+1,by omega,by go_num,HS2⟩
  simp[intOf];omega
 have hkn:k=is.length:=by omega
 subst hkn
 have HLR:Hid (LeftR base side w0 wr sb m bs ss is js ps Z):=hid ⟨is,js,ps,is.length,_,⟨_,_,_,HR.out⟩,Nat.le_refl _,rfl,fun _ h=>h,fun _ h=>h,Nat.le_refl _,Nat.le_refl _,Nat.le_refl _⟩
 clear HR
 go_wp2
 go_loopw[] (fun wr=>Hid (LeftR base side w0 wr sb m bs ss is js ps Z)) (fun wr=>leftN sb wr)
 case atStart=>exact HLR
 clear HLR
 obtain ⟨is',js',ps',n,N,hs,hn,hps,hsi,hsj,hli,hlj,hlp⟩:=hrel.out
 have KB:=bGe hs (aTv hsi hsj) (by omega) (by omega) (fun i hi=>by have:=HI.out i (hsi i hi);have:=HBL.out;omega) (fun j hj=>by have:=HJ.out j (hsj j hj);have:=HSL.out;omega)
 have HS:=hid hs
 have HPS:=hid hps
 have HSI:=hid hsi
 have HSJ:=hid hsj
 clear hs hps hsi hsj hrel
 go_wp2_with fail
 refine KB.mono ?_
 rintro e w2 ⟨x,y,b,rfl,hbf,hb2⟩
 have HBF:=hid hbf
 have HS2:=hid (HS.out.below hb2)
 clear KB hbf hb2
 cases b
 ·have HF:Hid (AlikeRes base side w0 sb m bs ss is js ps Z (.returned (.tuple #[])) (w2.alloc (.cells #[.int .i64 (x:Int),.int .i64 (y:Int)] 234))):=hid ⟨rfl,is',js',_,by
   have:=HPS.out
   rw[bAd HBF.out,List.append_nil] at this
   rw[<-this];exact HS2.out.below ((Below.refl w2.heap.size w2).alloc (Nat.le_refl _) _)⟩
  go_wp2
  refine bodyPost_end (results_none rfl _ _ _) rfl ?_
  exact HF.out
 have hbf:bestF base side is' js'=some (x,y):=HBF.out
 obtain ⟨n2,ha,hl1',hl2'⟩:=aYe hn hbf
 have hm1:=aPg hbf
 have hb3:=(Below.refl w2.heap.size w2).alloc (Nat.le_refl _) (.cells #[.int .i64 (x:Int),.int .i64 (y:Int)] 234)
 have KT:=aWl (HS2.out.below hb3) hm1.1 hm1.2 (by omega) (by omega) (by omega)
 have hnew:=heap_alloc_new w2 (.cells #[.int .i64 (x:Int),.int .i64 (y:Int)] 234)
 have c0:(w2.alloc (.cells #[.int .i64 (x:Int),.int .i64 (y:Int)] 234)).cell? ⟨w2.heap.size,0,none⟩=some (.int .i64 (x:Int)):=by rw[Lib.cell_of_heap hnew];rfl
 have c1:(w2.alloc (.cells #[.int .i64 (x:Int),.int .i64 (y:Int)] 234)).cell? ⟨w2.heap.size,1,none⟩=some (.int .i64 (y:Int)):=by rw[Lib.cell_of_heap hnew];rfl
 have HA:=hid ha
 clear hnew hb3 hm1 hbf ha
 go_wp2_with fail
 refine KT.mono ?_
 rintro e w3 ⟨rfl,hs3⟩
 have HR3:Hid (LeftR base side w0 w3 sb m bs ss is js ps Z):=hid ⟨_,_,_,n2,N,hs3,hl1',by rw[<-HPS.out,HA.out,List.append_assoc];rfl,fun i hi=>HSI.out i (List.mem_filter.1 hi).1,fun j hj=>HSJ.out j (List.mem_filter.1 hj).1,by omega,Nat.le_trans (List.length_filter_le _ _) hlj,by rw[List.length_append,List.length_singleton];omega⟩
 have HLT:Hid (leftN sb w3<leftN sb wr):=hid (by rw[bBq hs3,bBq HS.out];exact hl2')
 clear KT c0 c1 hs3
 go_wp2
 go_roundw
 case rel=>exact HR3
 exact HLT.out
def cmpS (a b:ByteArray):Int:=if Op.bytesLess a.toList b.toList=true then -1 else if (a.toList == b.toList)=true then 0 else 1
theorem aRa {a:ByteArray}{w:World}:Calls Tryz.prog 161 #[.string a] w fun e w'=>e=.returned (.bool false)/\w'=w:=by
 go_enter Tryz.func161,Tryz.ntmps161
 go_wp2
 go_ret
 exact ⟨by simp,rfl⟩
theorem aFn {a b:ByteArray}{w:World}:Calls Tryz.prog 135 #[.string a,.string b] w fun e w'=>e=.returned (.int .i64 (cmpS a b))/\w'=w:=by
 have k1:=@aRa a w
 have k2:=@aRa b w
 go_enter Tryz.func135,Tryz.ntmps135
 go_wp2_with fail
 refine k1.mono ?_
 rintro e w1 ⟨rfl,rfl⟩
 go_wp2_with fail
 refine k2.mono ?_
 rintro e w1 ⟨rfl,rfl⟩
 clear k1 k2
 cases h1:Op.bytesLess a.toList b.toList
 ·cases h2:a.toList == b.toList
  ·have HF:=hid (show cmpS a b=1 by unfold cmpS;rw[h1,h2];rfl)
   go_wp2
   go_ret
   exact ⟨by rw[HF.out];rfl,rfl⟩
  have HF:=hid (show cmpS a b=0 by unfold cmpS;rw[h1,h2];rfl)
  go_wp2
  go_ret
  exact ⟨by rw[HF.out];rfl,rfl⟩
 have HF:=hid (show cmpS a b=-1 by unfold cmpS;rw[h1];rfl)
 go_wp2
 go_ret
 exact ⟨by rw[HF.out];rfl,rfl⟩
def orI (x y:Int):Int:=if x=0 then y else x
theorem bJl {x y:Int}{g:Nat}{w:World}(h:w.heap[g]? = some (.cells #[.int .i64 x,.int .i64 y] 3 (0,0))) :
  Calls Tryz.prog 174 #[.slice (some ⟨g,0,none⟩) 2 2] w fun e w'=>e=.returned (.int .i64 (orI x y))/\w'=w:=by
 have c0:w.cell? ⟨g,0,none⟩=some (.int .i64 x):=by rw[Lib.cell_of_heap h];rfl
 have c1:w.cell? ⟨g,1,none⟩=some (.int .i64 y):=by rw[Lib.cell_of_heap h];rfl
 clear h
 go_enter Tryz.func174,Tryz.ntmps174
 go_wp2
 go_loopw[8] (fun i wr=>∃k:Nat,k<=2/\i=.int .i64 k/\Hid (wr=w)/\Hid (k=1->x=0)/\Hid (k=2->x=0/\y=0)) (fun i _=>2-(intOf i).toNat)
 case atStart=>exact ⟨0,by omega,rfl,hid rfl,hid (fun h=>by omega),hid (fun h=>by omega)⟩
 obtain ⟨k,hk,rfl,HW,H1,H2⟩:=hrel
 have c2:wr.cell? ⟨g,0,none⟩=some (.int .i64 x):=by rw[HW.out];exact c0
 have c3:wr.cell? ⟨g,1,none⟩=some (.int .i64 y):=by rw[HW.out];exact c1
 clear c0 c1
 rcases (show k=0\/k=1\/k=2 by omega) with rfl | rfl | rfl
 ·by_cases hx:x=0
  ·have e1:(x == 0)=true:=by rw[hx];rfl
   have HX:=hid hx
   clear hx
   go_wp2
   go_roundw
   case rel=>exact ⟨1,by omega,by go_num,HW,hid (fun _=>HX.out),hid (fun h=>by omega)⟩
   simp[intOf]
  have e1:(x == 0)=false:=beq_eq_false_iff_ne.2 hx
  have HX:=hid (show orI x y=x from if_neg hx)
  clear hx
  go_wp2
  go_ret
  exact ⟨by rw[HX.out];rfl,HW.out⟩
 ·have hx:=H1.out rfl
  by_cases hy:y=0
  ·have e1:(y == 0)=true:=by rw[hy];rfl
   have HX:=hid (And.intro hx hy)
   clear hx hy
   go_wp2
   go_roundw
   case rel=>exact ⟨2,by omega,by go_num,HW,hid (fun h=>by omega),hid (fun _=>HX.out)⟩
   simp[intOf]
  have e1:(y == 0)=false:=beq_eq_false_iff_ne.2 hy
  have HX:=hid (show orI x y=y from if_pos hx)
  clear hx hy
  go_wp2
  go_ret
  exact ⟨by rw[HX.out];rfl,HW.out⟩
 have HX:=hid (show orI x y=0 by unfold orI;rw[if_pos (H2.out rfl).1];exact (H2.out rfl).2)
 go_wp2
 go_ret
 exact ⟨by rw[HX.out];rfl,HW.out⟩
end Go.Proofs.YtohblmepajhpaaaGreatDoor
