/- Texts of the walks, together: A region whose build may float behind its writes. Walk: chunk's firm. Maps whose values read as they are; walk: chunk's kept. Maps from pairs of places; the plain law of chunk.Of's loops; walk: chunk.Of's function of where a line stands in both. Walks: chunk.Of's function of where a line stands; its first loop. -/
import Derived.Test.YtohblmepajhpaaaGreatDoorG10
set_option maxHeartbeats 8000000
set_option maxRecDepth 100000
open Go.Lib (hid)
namespace Go.Proofs.YtohblmepajhpaaaGreatDoor
open Go.RowKit
section
variable {P:Program} {ops:Array Oper} {S:World->Prop} {F Z:List Nat}
theorem aRs {id:Nat} {Q':Exit->Act->World->Prop}{a:Act}{w:World}(S:World->Prop) (π:List (Bool×Nat))(Z:List Nat) (σ ρ:List (Bool×Nat))(F:List Nat)(hm:P.follows .mixedOrders=true)
  (hc:planChkZ ops π (quiets Z) σ ρ F Z=true)
  (hS:S w.drew)
  (h:∀(T:World->Prop) (M:Addr->Option Value) (Q1 Q2 Q3 Q4:Act->World->Prop),(∀w,S w->T w)->(∀w,T w->S w)->(∀p v,(∀w,S w->w.cell? p=some v)->M p=some v)->
   (∀a w,wl P ops (fun _=>True) Q2 (quiets Z) a w->Q1 a w)->(∀a w,wq P T M Q3 (cmp ops σ) a w->Q2 a w)->(∀a w,wq P (fun _=>True) (fun _=>none) Q4 (cmp ops ρ) a w->Q3 a w)->(∀a w,Q' .normal a w->Q4 a w)->wq P T M Q1 (cmp ops π) a w.drew) :
  (Code.region id ops true).wp P Q' a w:=by
 simp only[planChkZ,Bool.and_eq_true] at hc
 obtain ⟨⟨⟨⟨hc,hl⟩,hπ⟩,hσ⟩,hρ⟩:=hc
 simp only[planChk,Bool.and_eq_true,Nat.ble_eq] at hc
 obtain ⟨⟨⟨c1,c2⟩,c3⟩,c4⟩:=hc
 have c5:planOk ops (π++(quiets Z++(σ++ρ))) (Array.replicate ops.size false)=true:=aCd _ 0 _ (by simp) (fun j hj=>by simp[hj]) (fun j _=>by simp) c3
 have hcl:Closed ops (Array.replicate ops.size false):=by
  intro j oj hj hlj
  have:=(Array.getElem?_eq_some_iff.1 hj).1
  simp[this] at hlj
 simp only[List.all_append,Bool.and_eq_true] at c4
 have hM:∀p v,(Classical.epsilon fun o:Option Value=>∀v,o=some v↔∀w,S w->w.cell? p=some v)=some v↔∀w,S w->w.cell? p=some v:=by
  intro p
  have hex:∃o:Option Value,∀v,o=some v↔∀w,S w->w.cell? p=some v:=by
   by_cases hx:∃v,∀w,S w->w.cell? p=some v
   ·obtain ⟨v,hv⟩:=hx
    refine ⟨some v,fun u=>⟨fun e=>(by cases e;exact hv),fun hu=>?_⟩⟩
    have h1:=hv _ hS
    rw[hu _ hS] at h1
    exact h1.symm
   exact ⟨none,fun u=>⟨fun e=>(by cases e),fun hu=>absurd ⟨u,hu⟩ hx⟩⟩
  exact Classical.epsilon_spec hex
 have hOk:=aYd hl
 have nin:∀{l:List (Bool×Nat)},(l.all fun x=>!F.contains x.2 && !Z.contains x.2)=true->∀x∈l,x.2∉F/\x.2∉Z:=fun hl x hx=>by
  have:=List.all_eq_true.1 hl x hx
  simpa using this
 refine wp_region_noPanic (wp_region_any hm (aGp (S:=S) (F:=F) _ _ _ _ ?_))
 refine aEa (C:=fun a w=>wl P ops (fun _=>True) (fun a w=>wl P ops S (fun a w=>wl P ops (fun _=>True) (Q' .normal) ρ a w) σ a w) (quiets Z) a w) c1 (fun c a w h=>h) hOk (quiets Z++(σ++ρ)) (fun listed fuel a w q1 q2 q3 q4 q5=>?_) π _ _ _ _ c5 c2 (nin hπ) hcl hS ?_
 ·refine aHb (C:=fun a w=>wl P ops S (fun a w=>wl P ops (fun _=>True) (Q' .normal) ρ a w) σ a w) c1 (fun c a w h=>h) (σ++ρ) (fun listed fuel a w q1 q2 q3 q4 q5=>?_) (quiets Z) _ _ _ _ q1 q2 (fun x hx=>by obtain ⟨i,_,rfl⟩:=List.mem_map.1 hx;rfl) q3 q4 q5
  refine aEa (C:=fun a w=>wl P ops (fun _=>True) (Q' .normal) ρ a w) c1 (fun c a w h=>h) hOk ρ (fun listed fuel a w q1 q2 q3 q4 q5=>?_) σ _ _ _ _ q1 q2 (nin hσ) q3 q4 q5
  exact aEb (Qn:=Q' .normal) c1 (fun c a w h=>h) (fun a w hh=>NoPanic.normal hh) ρ _ _ _ _ q1 q2 (fun x hx=>by have:=List.all_eq_true.1 hρ x hx;simpa using this) q3 q5
 refine aBl (M:=fun p=>Classical.epsilon fun o:Option Value=>∀v,o=some v↔∀w,S w->w.cell? p=some v) (fun p v h=>(hM p v).1 h) π a w.drew c4.1 ?_
 refine h S _ (fun a w=>wl P ops (fun _=>True) (fun a w=>wl P ops S (fun a w=>wl P ops (fun _=>True) (Q' .normal) ρ a w) σ a w) (quiets Z) a w) (fun a w=>wl P ops S (fun a w=>wl P ops (fun _=>True) (Q' .normal) ρ a w) σ a w) (fun a w=>wl P ops (fun _=>True) (Q' .normal) ρ a w) (Q' .normal) (fun _ h=>h) (fun _ h=>h) (fun p v h=>(hM p v).2 h) (fun a' w' hh=>?_) (fun a' w' hh=>?_) (fun a' w' hh=>?_) (fun _ _ h=>h)
 ·exact hh
 ·exact aBl (M:=fun p=>Classical.epsilon fun o:Option Value=>∀v,o=some v↔∀w,S w->w.cell? p=some v) (fun p v h=>(hM p v).1 h) σ a' w' c4.2.2.1 hh
 exact aBl (M:=fun _=>none) (fun p v h=>by cases h) ρ a' w' c4.2.2.2 hh
end
theorem bGi {P:Program}{ops:Array Oper}{i:Nat}{a:Act}{w:World}{dst:Option Tmp}{t ty:TypeId}{p:String}{af:Array Edge}{parts:Array (Nat×Operand)}{vs:Array (Nat×Value)}{v:Value}{Q:Act->World->Prop}
  (ho:ops[i]? = some ⟨dst,.build t parts,ty,p,af,none⟩) (hv:(parts.toList.map fun p=>(p.1,a.eval p.2)).toArray=vs) (hr:∀w,(Instr.build t vs).run P w=.ok v w) (hK:Q (a.put dst v) w) :
  wl P ops (fun _=>True) Q [(true,i)] a w:=by
 simp only[wl,ho,Region.wanted,if_true]
 refine ⟨v,fun w d p af g _=>?_,hK⟩
 have hv':(parts.map fun p=>(p.1,a.eval p.2))=vs:=by rw[<-hv];apply Array.toList_inj.1;simp
 unfold execOp
 simp only[hv',hr,Sem.run_bind,Sem.run_pure,Result.andThen_ok]
theorem aXf {P:Program}{ops:Array Oper}{S:World->Prop}{Q:Act->World->Prop} {σ:List (Bool×Nat)}:∀(π:List (Bool×Nat)) (a:Act) (w:World),wl P ops S (wl P ops S Q σ) π a w->wl P ops S Q (π++σ) a w
 | [],a,w,h=>h
 | (q,i)::r,a,w,h=>by
  simp only[List.cons_append,wl] at h ⊢
  split
  ·rename_i ho;simp only[ho] at h
  rename_i o ho
  simp only[ho] at h
  split
  ·rename_i hw
   rw[if_pos hw] at h
   cases q with
   | true=>
    simp only[if_true] at h ⊢
    obtain ⟨v,hv,h⟩:=h
    exact ⟨v,hv,aXf r _ _ h⟩
   | false=>
    simp only[Bool.false_eq_true,if_false] at h ⊢
    exact aEj (fun a w hh=>⟨hh.1,aXf r _ _ hh.2⟩) (fun _ _ _ hh=>hh) h
  rename_i hw
  rw[if_neg hw] at h
  exact aXf r _ _ h
theorem aRk {P:Program}{ops:Array Oper}{id:Nat} {Q':Exit->Act->World->Prop}{a:Act}{w:World}(S:World->Prop) (π:List (Bool×Nat))(Z:List Nat)(i:Nat) (ρ:List (Bool×Nat))(F:List Nat)(hm:P.follows .mixedOrders=true)
  (hc:planChkZ ops π (quiets (Z++[i])) [] ρ F (Z++[i])=true) (hS:S w.drew)
  (h:∀(T:World->Prop) (M:Addr->Option Value) (Q1 Q2 Q3 Q4:Act->World->Prop),(∀w,S w->T w)->(∀w,T w->S w)->(∀p v,(∀w,S w->w.cell? p=some v)->M p=some v)->
   (∀a w,wq P (fun _=>True) (fun _=>none) Q2 (cmp ops (quiets Z)) a w->Q1 a w)->(∀a w,wl P ops (fun _=>True) Q3 [(true,i)] a w->Q2 a w)->(∀a w,wq P (fun _=>True) (fun _=>none) Q4 (cmp ops ρ) a w->Q3 a w)->(∀a w,Q' .normal a w->Q4 a w)->wq P T M Q1 (cmp ops π) a w.drew) :
  (Code.region id ops true).wp P Q' a w:=by
 have hz:=hc
 simp only[planChkZ,planChk,Bool.and_eq_true,quiets,List.map_append,List.all_append] at hz
 refine aRs S π (Z++[i]) [] ρ F hm hc hS fun T M Q1 Q2 Q3 Q4 hT hT' hM h1 h2 h3 h4=>?_
 refine h T M Q1 (wl P ops (fun _=>True) Q2 [(true,i)]) Q2 Q4 hT hT' hM (fun a w hh=>h1 a w ?_) (fun a w hh=>hh) (fun a w hh=>h2 a w (h3 a w hh)) h4
 rw[show quiets (Z++[i])=quiets Z++[(true,i)] by simp[quiets]]
 refine aXf _ _ _ (aBl (M:=fun _=>none) (fun p v h=>by cases h) (quiets Z) a w ?_ hh)
 exact hz.1.1.1.1.2.2.1.1
theorem aWt {w0 w:World}{tb:Nat}{Ab:Option Addr}{x y:Value}{nb cb b o t n:Nat}{base:List ByteArray}{L:List KV}
  (hb:Rd w0 w0.heap.size 1 Ab nb cb (base.map .string)) (hnb:nb<=100000) (ho:o+n<=1000000) (ht:t+n<=1000000) (hL:L.length<=1000000)
  (h:TX w0 w tb (.slice Ab nb cb) x y b o t L) (h1:b+n<=nb) :
  Calls Tryz.prog 218 #[.pointer (some ⟨tb,0,none⟩),.int .i64 n] w fun e w'=>e=.returned (.tuple #[])/\TX w0 w' tb (.slice Ab nb cb) x y (b+n) (o+n) (t+n) (L++[⟨1,sliceF base b (b+n),sliceF base b (b+n),sliceF base b (b+n)⟩]):=by
 have hhi:=h.hi
 have hlo:=h.lo
 obtain ⟨out,H,hcells,hown,hne,hK⟩:=h.ex
 have HBEL:=hid h.bel
 have hcb0:=hb.cap
 obtain ⟨hr0,hl0⟩:=aHk hb (Nat.le_add_right b n) h1
 generalize sliceF base b (b+n)=L0 at *
 have HT:=hid hcells
 have HOW:=hid hown
 have HK:=hid hK
 have HL0:=hid hl0
 have HR0:=hid hr0
 have HNE:=hid hne
 clear hcells hown hK hl0 hr0 hb hne h
 have kk:∀k v,(#[.slice Ab nb cb,x,y,.int .i64 b,.int .i64 o,.int .i64 t,out]:Array Value)[k]? = some v->w.drew.cell? ⟨tb,k,none⟩=some v:=fun k v hv=>by
  show w.cell? ⟨tb,k,none⟩=some v
  rw[Lib.cell_of_heap HT.out];exact hv
 have k0:w.drew.cell? ⟨tb,0,none⟩=some (.slice Ab nb cb):=kk 0 _ rfl
 have k3:w.drew.cell? ⟨tb,3,none⟩=some (.int .i64 b):=kk 3 _ rfl
 clear kk
 have i1:(b:Int)+n=((b+n:Nat):Int):=by push_cast;rfl
 have i2:(o:Int)+n=((o+n:Nat):Int):=by push_cast;rfl
 have i3:(t:Int)+n=((t+n:Nat):Int):=by push_cast;rfl
 go_enter Tryz.func218,Tryz.ntmps218
 go_wp2
 refine aAh (fun w'=>Below w.heap.size w w') (qs 16) mixed (by kernel_rfl) (Below.refl _ _).drew ?_
 intro Tp M Q hT hT' hM hQ
 have m0:=hM ⟨tb,0,none⟩ _ fun w' hw=>(hw.cell (p:=⟨tb,0,none⟩) hhi).trans k0
 have m1:=hM ⟨tb,3,none⟩ _ fun w' hw=>(hw.cell (p:=⟨tb,3,none⟩) hhi).trans k3
 clear hM
 simp only[qcmp]
 simp (maxSteps:=9^7) only[↓qpre,aAb,aAe,aAc,m0,m1,i1]
 (repeat refine And.intro (by first|omega|(unfold inI64;omega)) ?_)
 refine hQ _ _ ?_
 clear hQ hT hT' m0 m1 k0 k3
 simp only[sliced,Nat.mul_one]
 have HC0:Hid (∀u,Below w.heap.size w u->Calls Tryz.prog 260 #[.slice (if cb=b then Ab else Ab.map (·.add b)) (b+n-b) (cb-b)] u (FreshS L0 u)):=fun u hu=>by
  have hb:=HBEL.out.trans (hu.mono HBEL.out.size)
  have:=HR0.out.to hb hb.size
  rw[<-HL0.out] at this ⊢
  exact aGk (by have:=HL0.out;omega) this
 generalize (if cb=b then Ab else Option.map (fun x=>x.add b) Ab)=Ab1 at *
 have HLT:Hid (∀b∈tb::obs out,b<w.heap.size):=by
  refine all_cons hhi (fun b hb=>?_)
  exact (HOW.out.lt b (aFr hb)).2
 have HW:=hid (show Below w.heap.size w w.drew.drew from (Below.refl _ _).drew.drew)
 have HT:=hid (show w.drew.drew.heap[tb]? = some (.cells #[.slice Ab nb cb,x,y,.int .i64 b,.int .i64 o,.int .i64 t,out] 278 (0,0)) from HT.out)
 have HOW:=hid HOW.out.drew.drew
 have HKV:=hid (KIns.keep (Keeps.of_below (show Below w.heap.size w w.drew.drew from (Below.refl _ _).drew.drew)) HK.out)
 have HB:=hid HBEL.out.drew.drew
 go_wp2
 refine aBf (fun w'=>w'.heap[tb]? = some (.cells #[.slice Ab nb cb,x,y,.int .i64 b,.int .i64 o,.int .i64 t,out] 278 (0,0))) [(true,0),(true,1),(true,2),(true,3),(true,4),(true,5),(true,7),(true,9),(false,6),(false,8),(false,10),(false,11),(false,12),(false,13),(true,14),(true,15)] [16] mixed (by kernel_rfl) HT.out ?_
 intro Tp M Q Q2 hT hT' hM hQ hQ2
 have m0:M ⟨tb,6,none⟩=some out:=hM _ _ fun w' hw=>by rw[Lib.cell_of_heap hw];rfl
 clear hM
 simp only[qcmp]
 simp (maxSteps:=9^7) only[↓qpre,aAb,aAe,aAc,m0]
 clear m0
 refine aAi (by kernel_rfl) (HC0.out _ HW.out) rfl rfl ?_
 rintro e u0 ⟨A0,c0,rfl,hr,hf,hb⟩
 have HX0:=hid (aBa (l:=tb::obs out) hr hf (fun b hb=>Nat.lt_of_lt_of_le (HLT.out b hb) HW.out.size))
 have HT:=hid ((hb.block tb (Nat.lt_of_lt_of_le hhi HW.out.size)).trans HT.out)
 have HOW:=hid (aAg HOW.out hb)
 have HKV:=hid (HKV.out.keep (Keeps.of_below hb))
 have HB:=hid (HB.out.trans (hb.mono HB.out.size))
 have HW:=hid (HW.out.trans (hb.mono HW.out.size))
 clear hr hf hb
 refine ⟨_,rfl,hT _ HT.out,?_⟩
 simp (maxSteps:=9^7) only[aAb,aAc]
 refine aAi (by kernel_rfl) (HC0.out _ HW.out) rfl rfl ?_
 rintro e u1 ⟨A1,c1,rfl,hr,hf,hb⟩
 have HX1:=hid (aBa (l:=tb::obs out) hr hf (fun b hb=>Nat.lt_of_lt_of_le (HLT.out b hb) HW.out.size))
 have HX0:=hid (HX0.out.keep (Keeps.of_below hb))
 have HT:=hid ((hb.block tb (Nat.lt_of_lt_of_le hhi HW.out.size)).trans HT.out)
 have HOW:=hid (aAg HOW.out hb)
 have HKV:=hid (HKV.out.keep (Keeps.of_below hb))
 have HB:=hid (HB.out.trans (hb.mono HB.out.size))
 have HW:=hid (HW.out.trans (hb.mono HW.out.size))
 clear hr hf hb
 refine ⟨_,rfl,hT _ HT.out,?_⟩
 simp (maxSteps:=9^7) only[aAb,aAc]
 refine aAi (by kernel_rfl) (HC0.out _ HW.out) rfl rfl ?_
 rintro e u2 ⟨A2,c2,rfl,hr,hf,hb⟩
 have HX2:=hid (aBa (l:=tb::obs out) hr hf (fun b hb=>Nat.lt_of_lt_of_le (HLT.out b hb) HW.out.size))
 have HX0:=hid (HX0.out.keep (Keeps.of_below hb))
 have HX1:=hid (HX1.out.keep (Keeps.of_below hb))
 have HT:=hid ((hb.block tb (Nat.lt_of_lt_of_le hhi HW.out.size)).trans HT.out)
 have HOW:=hid (aAg HOW.out hb)
 have HKV:=hid (HKV.out.keep (Keeps.of_below hb))
 have HB:=hid (HB.out.trans (hb.mono HB.out.size))
 have HW:=hid (HW.out.trans (hb.mono HW.out.size))
 clear hr hf hb
 refine ⟨_,rfl,hT _ HT.out,?_⟩
 simp (maxSteps:=9^7) only[aAb,aAc]
 refine aBz rfl (bAb 1 A0 A1 A2 _ _ _ _ _ _ _) ⟨hT _ HT.out,?_⟩
 simp (maxSteps:=9^7) only[aAb,aAc]
 have hba:Below u2.heap.size u2 (u2.alloc (.cells #[.int .i64 1,.slice A0 L0.length c0,.slice A1 L0.length c1,.slice A2 L0.length c2] 143)):=(Below.refl _ _).alloc (Nat.le_refl _) _
 have hhu:=Nat.lt_of_lt_of_le hhi HW.out.size
 have HT:=hid ((hba.block tb hhu).trans HT.out)
 refine T.eff_lits (T.run_lits4 aKw _ _ _ _ _) rfl ⟨hT _ HT.out,?_⟩
 simp (maxSteps:=9^7) only[aAb,aAc]
 have HLIT:=hid (aOx u2 (.int .i64 1) (.slice A0 L0.length c0) (.slice A1 L0.length c1) (.slice A2 L0.length c2))
 have HOW4:=hid (aAg HOW.out hba)
 have HB4:=hid (HB.out.trans (hba.mono HB.out.size))
 have HX0:=hid ((HX0.out.keep (Keeps.of_below hba)).less (m:=(u2.alloc (.cells #[.int .i64 1,.slice A0 L0.length c0,.slice A1 L0.length c1,.slice A2 L0.length c2] 143)).heap.size::tb::obs out) (aFl (Nat.le_refl _)))
 have HX1:=hid ((HX1.out.keep (Keeps.of_below hba)).less (m:=(u2.alloc (.cells #[.int .i64 1,.slice A0 L0.length c0,.slice A1 L0.length c1,.slice A2 L0.length c2] 143)).heap.size::tb::obs out) (aFl (Nat.le_refl _)))
 have HX2:=hid ((HX2.out.keep (Keeps.of_below hba)).less (m:=(u2.alloc (.cells #[.int .i64 1,.slice A0 L0.length c0,.slice A1 L0.length c1,.slice A2 L0.length c2] 143)).heap.size::tb::obs out) (aFl (Nat.le_refl _)))
 have HKV:=hid ((HKV.out.keep (Keeps.of_below hba)).less (m:=(u2.alloc (.cells #[.int .i64 1,.slice A0 L0.length c0,.slice A1 L0.length c1,.slice A2 L0.length c2] 143)).heap.size::tb::obs out) (aFl (Nat.le_refl _)))
 have htV:=Nat.lt_of_lt_of_le hhu hba.size
 clear HOW HB HW hba hhu
 generalize u2.alloc (.cells #[.int .i64 1,.slice A0 L0.length c0,.slice A1 L0.length c1,.slice A2 L0.length c2] 143)=V4 at *
 refine aAw aKw (base:=w0.heap.size) (n:=L.length) rfl rfl HOW4.out HLIT.out (by intro u hu;simp at hu;rcases hu with rfl | rfl | rfl | rfl<;>rfl) (by unfold maxLen;omega) (by omega) HB4.out.size ?_
 intro v7 V5 ho7 hg7 hv7
 obtain ⟨A7,c7,rfl,hc7⟩:=aAd ho7
 have htb5:V5.heap[tb]? = V4.heap[tb]?:=hg7.block tb htV (fun e=>HNE.out e.symm)
 have HT:=hid (htb5.trans HT.out)
 refine ⟨hT _ HT.out,?_⟩
 simp (maxSteps:=9^7) only[↓qpre,aAb,aAe,aAc]
 refine hQ _ _ ?_
 simp only[lates,List.map,qcmp]
 simp (maxSteps:=9^7) only[aAb]
 refine aBi (v:=.slice A7 (L.length+1) c7) (b:=tb) (o:=6) (by kernel_rfl) rfl rfl (by rw[Lib.cell_of_heap HT.out];rfl) (aAk HT.out) rfl ⟨trivial,?_⟩
 simp (maxSteps:=9^7) only[aAb]
 refine hQ2 _ _ ?_
 have HTV6:Hid ((V5.setCell ⟨tb,6,none⟩ (.slice A7 (L.length+1) c7)).heap[tb]? = some (.cells #[.slice Ab nb cb,x,y,.int .i64 b,.int .i64 o,.int .i64 t,.slice A7 (L.length+1) c7] 278 (0,0))):=by
  have:=heap_setCell_same V5 tb 6 _ _ (.slice A7 (L.length+1) c7) HT.out
  unfold Hid
  simpa using this
 have HG6:=hid ((Keeps.grown (l:=V4.heap.size::tb::obs out) hg7 (fun g hg=>List.mem_cons_of_mem _ (List.mem_cons_of_mem _ (aEq hg)))).trans (Keeps.grown (aAq V5 tb 6 (.slice A7 (L.length+1) c7)) (by simp)))
 have HN7:Hid ((Value.slice A7 (L.length+1) c7).ownBlock≠some tb):=by
  rcases hv7 with h | h
  ·rw[h];exact HNE.out
  rw[h];intro e;injection e with e;omega
 have HO7:=hid (ownsRow_setCell_other ho7 (a:=⟨tb,6,none⟩) HN7.out (.slice A7 (L.length+1) c7))
 have HB6:=hid ((HB4.out.grown hg7 HB4.out.size (fun g hg=>(HOW4.out.lt g hg).1)).setCell (p:=⟨tb,6,none⟩) hlo (.slice A7 (L.length+1) c7))
 have HSUB:Hid (∀b∈tb::obs (.slice A7 (L.length+1) c7),b∈V4.heap.size::tb::obs out):=by
  refine all_cons (by simp) (fun b hb=>?_)
  rcases hv7 with h | h
  ·have:=aFr hb;rw[h] at this;exact List.mem_cons_of_mem _ (List.mem_cons_of_mem _ (aEq this))
  have:=aFr hb;rw[h] at this;injection this with this;simp[this]
 have HKF:=hid (((KIns.snoc (k:=⟨1,L0,L0,L0⟩) HKV.out ⟨A0,c0,A1,c1,A2,c2,rfl,HX0.out,HX1.out,HX2.out⟩).keep HG6.out).less (fun b hb=>.inl (HSUB.out b hb)))
 clear hQ hQ2 hT hT' HX0 HX1 HX2 HKV HG6 HSUB ho7 hg7 hv7 HOW4 HLIT HT htb5
 have htb6:tb<(V5.setCell ⟨tb,6,none⟩ (.slice A7 (L.length+1) c7)).heap.size:=by
  rcases Nat.lt_or_ge tb (V5.setCell ⟨tb,6,none⟩ (.slice A7 (L.length+1) c7)).heap.size with h2 | h2
  ·exact h2
  have:=HTV6.out
  rw[Array.getElem?_eq_none h2] at this;cases this
 generalize V5.setCell ⟨tb,6,none⟩ (.slice A7 (L.length+1) c7)=V6 at *
 go_wp2
 refine aRk (fun w'=>w'.heap[tb]? = some (.cells #[.slice Ab nb cb,x,y,.int .i64 b,.int .i64 o,.int .i64 t,.slice A7 (L.length+1) c7] 278 (0,0))) [(true,0),(true,2),(true,3),(true,4),(true,5),(true,6),(true,7),(true,8),(true,9),(true,10),(true,11),(true,12),(true,15),(true,16),(true,17),(true,18),(true,19),(true,23),(true,24)] [1,13,14,20,21] 22 [(false,25),(true,26),(true,27),(false,28)] [25,26,27,28] mixed (by kernel_rfl) HTV6.out ?_
 intro Tp M Q1 Q2 Q3 Q4 hT hT' hM hq1 hq2 hq3 hq4
 have m3:M ⟨tb,3,none⟩=some (.int .i64 b):=hM _ _ fun w' hw=>by rw[Lib.cell_of_heap hw];rfl
 have m4:M ⟨tb,4,none⟩=some (.int .i64 o):=hM _ _ fun w' hw=>by rw[Lib.cell_of_heap hw];rfl
 have m5:M ⟨tb,5,none⟩=some (.int .i64 t):=hM _ _ fun w' hw=>by rw[Lib.cell_of_heap hw];rfl
 clear hM
 simp only[qcmp]
 simp (maxSteps:=9^7) only[↓qpre,aAb,aAe,aAc,m3,m4,m5,i1]
 (repeat refine And.intro (by first|omega|(unfold inI64;omega)) ?_)
 refine hq1 _ _ ?_
 simp only[quiets,List.map,qcmp]
 simp (maxSteps:=9^7) only[↓qpre,aAb,aAc,i2,i3]
 (repeat refine And.intro (by first|omega|(unfold inI64;omega)) ?_)
 refine hq2 _ _ ?_
 refine bGi rfl rfl (aZh _ _) ?_
 simp (maxSteps:=9^7) only[aAb,aAc]
 refine hq3 _ _ ?_
 simp only[qcmp]
 simp (maxSteps:=9^7) only[aAb]
 have HT2:=hid (heap_setCell_same V6.drew tb 3 _ _ (.int .i64 (b+n:Nat)) HTV6.out)
 have HT3:=hid (heap_setCell_same _ tb 4 _ _ (.int .i64 (o+n:Nat)) HT2.out)
 have HT4:=hid (heap_setCell_same _ tb 5 _ _ (.int .i64 (t+n:Nat)) HT3.out)
 have hc3:(V6.drew.cell? ⟨tb,3,none⟩).isSome=true:=by
  show (V6.cell? ⟨tb,3,none⟩).isSome=true
  rw[Lib.cell_of_heap HTV6.out];rfl
 have hf3:V6.drew.frozen? ⟨tb,3,none⟩=false:=aAk (w:=V6) HTV6.out
 refine aBi (v:=.int .i64 (b+n:Nat)) (b:=tb) (o:=3) (by kernel_rfl) rfl rfl hc3 hf3 rfl ⟨trivial,?_⟩
 simp (maxSteps:=9^7) only[↓qpre,aAb,aAe,aAc]
 refine aNo (u0:=.int .i64 (o+n:Nat)) (u1:=.int .i64 (t+n:Nat)) (b:=tb) (o:=4) (by kernel_rfl) rfl rfl (by rw[Lib.cell_of_heap HT2.out];rfl) (by rw[Lib.cell_of_heap HT2.out];rfl) (aAk HT2.out) (aAk HT2.out) rfl rfl ⟨trivial,?_⟩
 simp (maxSteps:=9^7) only[aAb]
 refine hq4 _ _ ?_
 have HG:=hid (((Keeps.refl (tb::obs (.slice A7 (L.length+1) c7)) V6).drew.trans (Keeps.grown (aAq V6.drew tb 3 (.int .i64 (b+n:Nat))) (by simp))).trans ((Keeps.grown (aAq _ tb 4 (.int .i64 (o+n:Nat))) (by simp)).trans (Keeps.grown (aAq _ tb 5 (.int .i64 (t+n:Nat))) (by simp))))
 have HB2:=hid (((HB6.out.drew.setCell (p:=⟨tb,3,none⟩) hlo (.int .i64 (b+n:Nat))).setCell (p:=⟨tb,4,none⟩) hlo (.int .i64 (o+n:Nat))).setCell (p:=⟨tb,5,none⟩) hlo (.int .i64 (t+n:Nat)))
 have HOF:=hid (ownsRow_setCell_other (ownsRow_setCell_other (ownsRow_setCell_other HO7.out.drew (a:=⟨tb,3,none⟩) HN7.out (.int .i64 (b+n:Nat))) (a:=⟨tb,4,none⟩) HN7.out (.int .i64 (o+n:Nat))) (a:=⟨tb,5,none⟩) HN7.out (.int .i64 (t+n:Nat)))
 have HTV:Hid ((((V6.drew.setCell ⟨tb,3,none⟩ (.int .i64 (b+n:Nat))).setCell ⟨tb,4,none⟩ (.int .i64 (o+n:Nat))).setCell ⟨tb,5,none⟩ (.int .i64 (t+n:Nat))).heap[tb]? = some (.cells #[.slice Ab nb cb,x,y,.int .i64 (b+n:Nat),.int .i64 (o+n:Nat),.int .i64 (t+n:Nat),.slice A7 (L.length+1) c7] 278 (0,0))):=by
  have:=HT4.out
  unfold Hid
  simpa using this
 have HKG:=hid (HKF.out.keep HG.out)
 clear hq1 hq2 hq3 hq4 hT hT' HT2 HT3 HT4 hc3 hf3 HG HKF HB6 HO7 HTV6 m3 m4 m5
 go_wp2
 refine bodyPost_end (results_none rfl _ _ _) rfl ?_
 refine ⟨rfl,⟨⟨_,H++[[.int .i64 1,.slice A0 L0.length c0,.slice A1 L0.length c1,.slice A2 L0.length c2]],HTV.out,?_,HN7.out,HKG.out⟩,hlo,HB2.out⟩⟩
 rw[List.length_append,List.flatten_append]
 exact HOF.out
def Rv (v:Value):Option (DataW Value×List MemPlace):=some (.held v,[])
theorem aGc {v v':Value}(h:(DataW.held v:DataW Value)=.held v'):v=v':=by injection h
theorem bCb:IntKind.i64.min=-9223372036854775808:=by decide
theorem bDx {x:Nat}(h:x<=1000000000):(Lit.int .i64 (x:Int)).wf=true:=by
 simp[Lit.wf,bCb]
 omega
theorem KI:Maps.Keyed Tryz.prog 3:=Maps.int_keyed Tryz.underlying3
theorem keyI {x:Nat}(h:x<=1000000000):keyOf Tryz.prog 3 (.int .i64 (x:Int))=some (.int .i64 (x:Int)):=Maps.keyOf_int_mk Tryz.underlying3 (bDx h)
theorem bCu {x y:Nat}(h:x≠y):(Lit.int .i64 (x:Int))≠Lit.int .i64 (y:Int):=fun e=>by
 injection e with _ e;omega
structure MpI (w:World) (b n:Nat) (D:DataW Value) (F:Nat->Option Nat):Prop where
 own:w.ownsMap Tryz.prog 3 Rv b n D
 at_:∀x:Nat,x<=1000000000->D.atKey (.int .i64 (x:Int)) (.held (.int .i64 0))=.held (.int .i64 (((F x).getD 0:Nat):Int))
 has:∀x:Nat,x<=1000000000->Maps.has D (.int .i64 (x:Int))=(F x).isSome
theorem MpI.start (w:World):MpI (w.alloc (.map #[] 0)) w.heap.size 0 (.map []) (fun _=>none):=
 ⟨World.ownsMap_made _ _ _ _,fun _x _=>rfl,fun _x _=>rfl⟩
theorem MpI.put {w w':World}{b n:Nat}{D:DataW Value} {F F':Nat->Option Nat}{i j:Nat}(h:MpI w b n D F)(hi:i<=1000000000)
  (hown:w'.ownsMap Tryz.prog 3 Rv b (n+1) (D.put (.int .i64 (i:Int)) (.held (.int .i64 (j:Int))))) (hF:∀x,F' x=if x=i then some j else F x) :
  MpI w' b (n+1) (D.put (.int .i64 (i:Int)) (.held (.int .i64 (j:Int)))) F':=by
 refine ⟨hown,fun x hx=>?_,fun x hx=>?_⟩
 ·by_cases e:x=i
  ·subst e
   rw[Maps.atKey_put_same h.own.isMap (KI.key (keyI hi)),hF,if_pos rfl];rfl
  rw[Maps.atKey_put_other (bCu e),h.at_ x hx,hF,if_neg e]
 by_cases e:x=i
 ·subst e
  rw[Maps.has_put_same h.own.isMap (KI.key (keyI hi)),hF,if_pos rfl];rfl
 rw[Maps.has_put_other (bCu e),h.has x hx,hF,if_neg e]
theorem MpI.kept {w w':World}{b n:Nat}{D:DataW Value}{F:Nat->Option Nat}{row:Option Nat}(h:MpI w b n D F)(hg:w.grownBy w' row)(hne:some b≠row):MpI w' b n D F:=
 ⟨h.own.kept hg hne,h.at_,h.has⟩
theorem MpI.below {w w':World}{b n:Nat}{D:DataW Value}{F:Nat->Option Nat}(h:MpI w b n D F)(hb:Below w.heap.size w w'):MpI w' b n D F:=
 h.kept (row:=none) ⟨hb.os,hb.tape,hb.output,hb.size,fun k hk _=>hb.block k hk⟩ (by simp)
theorem MpI.look {w:World}{b n:Nat}{D:DataW Value}{F:Nat->Option Nat}(h:MpI w b n D F){x:Nat}(hx:x<=1000000000) :
  (Instr.lookup 269 (.map (some b)) (.int .i64 (x:Int)) true).run Tryz.prog w=.ok (.tuple #[.int .i64 (((F x).getD 0:Nat):Int),.bool (F x).isSome]) w:=by
 obtain ⟨v,ps,hrun,hv⟩:=h.own.look_ok KI Tryz.underlying269 (Tryz.zeroValue3 w) (show Rv (.int .i64 0)=some (.held (.int .i64 0),[]) from rfl) (keyI hx)
 rw[h.at_ x hx] at hv
 rw[h.has x hx] at hrun
 have:v=.int .i64 (((F x).getD 0:Nat):Int):=by
  have h1:(DataW.held v:DataW Value)=.held (.int .i64 (((F x).getD 0:Nat):Int)):=by
   have:=hv
   simp only[Rv,Option.some.injEq,Prod.mk.injEq] at this
   exact this.1
  exact aGc h1
 rw[this] at hrun
 exact hrun
def upK:List DV->Nat->Nat->(Nat->Option Nat)->Nat×Nat×(Nat->Option Nat)
 | [],i,j,F=>(i,j,F)
 | e::es,i,j,F=>if e.kind=1 then upK es (i+1) (j+1) (fun x=>if x=i then some j else F x) else if e.kind=2 then upK es (i+1) j F else if e.kind=3 then upK es i (j+1) F else upK es i j F
theorem aHw:∀(es:List DV) (e:DV) (i j:Nat) (F:Nat->Option Nat),upK (es++[e]) i j F=upK [e] (upK es i j F).1 (upK es i j F).2.1 (upK es i j F).2.2
 | [],e,i,j,F=>rfl
 | x::es,e,i,j,F=>by
  rw[List.cons_append]
  by_cases h1:x.kind=1
  ·have e1:∀l,upK (x::l) i j F=upK l (i+1) (j+1) (fun x=>if x=i then some j else F x):=fun l=>by rw[upK,if_pos h1]
   rw[e1,e1];exact aHw es e _ _ _
  by_cases h2:x.kind=2
  ·have e1:∀l,upK (x::l) i j F=upK l (i+1) j F:=fun l=>by rw[upK,if_neg h1,if_pos h2]
   rw[e1,e1];exact aHw es e _ _ _
  by_cases h3:x.kind=3
  ·have e1:∀l,upK (x::l) i j F=upK l i (j+1) F:=fun l=>by rw[upK,if_neg h1,if_neg h2,if_pos h3]
   rw[e1,e1];exact aHw es e _ _ _
  have e1:∀l,upK (x::l) i j F=upK l i j F:=fun l=>by rw[upK,if_neg h1,if_neg h2,if_neg h3]
  rw[e1,e1];exact aHw es e _ _ _
theorem aTa:∀(es:List DV) (i j:Nat) (F:Nat->Option Nat),(upK es i j F).1<=i+es.length/\(upK es i j F).2.1<=j+es.length
 | [],i,j,F=>⟨Nat.le_refl _,Nat.le_refl _⟩
 | x::es,i,j,F=>by
  rw[upK]
  have a1:=aTa es (i+1) (j+1) (fun x=>if x=i then some j else F x)
  have a2:=aTa es (i+1) j F
  have a3:=aTa es i (j+1) F
  have a4:=aTa es i j F
  simp only[List.length_cons]
  split
  ·omega
  split
  ·omega
  split<;>omega
theorem aGm:∀(es:List DV) (i j:Nat) (F:Nat->Option Nat),kinds es->∀x,(upK es i j F).2.2 x=if x<i then F x else if h:x-i<(placesF es j).length then (match (placesF es j)[x-i] with | some y=>some y | none=>F x) else F x
 | [],i,j,F,_,x=>by
  simp[upK,placesF]
 | e::es,i,j,F,hk,x=>by
  have hke:=hk e (by simp)
  have hks:kinds es:=fun y hy=>hk y (List.mem_cons_of_mem _ hy)
  rw[upK]
  by_cases h1:e.kind=1
  ·simp only[if_pos h1,placesF]
   rw[aGm es (i+1) (j+1) _ hks x]
   by_cases hx:x<i
   ·rw[if_pos (by omega),if_pos hx,if_neg (by omega)]
   rw[if_neg hx]
   by_cases hx2:x=i
   ·subst hx2;simp
   have:¬x<i+1:=by omega
   rw[if_neg this]
   have e1:x-i=(x-(i+1))+1:=by omega
   simp only[e1,List.length_cons,Nat.add_lt_add_iff_right,List.getElem_cons_succ,if_neg hx2]
  simp only[if_neg h1]
  by_cases h2:e.kind=2
  ·simp only[if_pos h2,placesF,if_neg h1]
   rw[aGm es (i+1) j _ hks x]
   by_cases hx:x<i
   ·rw[if_pos (by omega),if_pos hx]
   rw[if_neg hx]
   by_cases hx2:x=i
   ·subst hx2;simp
   have:¬x<i+1:=by omega
   rw[if_neg this]
   have e1:x-i=(x-(i+1))+1:=by omega
   simp only[e1,List.length_cons,Nat.add_lt_add_iff_right,List.getElem_cons_succ]
  have h3:e.kind=3:=by rcases hke with h | h | h;exact absurd h h1;exact absurd h h2;exact h
  simp only[if_neg h2,if_pos h3,placesF,if_neg h1]
  exact aGm es i (j+1) F hks x
def keptAt (base side:List ByteArray)(x:Nat):Option Nat:=((placeF base side)[x]?).bind id
theorem bGs (base side:List ByteArray)(x:Nat):(upK (script base side) 0 0 (fun _=>none)).2.2 x=keptAt base side x:=by
 rw[aGm _ _ _ _ (aMs base side).2.2,if_neg (Nat.not_lt_zero _)]
 unfold keptAt placeF
 simp only[Nat.sub_zero]
 split
 ·rename_i h
  rw[List.getElem?_eq_getElem h]
  cases (placesF (script base side) 0)[x]<;>rfl
 rename_i h
 rw[List.getElem?_eq_none (by omega)];rfl
def KeptIs (F:Nat->Option Nat)(w:World)(e:Ending) (w':World):Prop:=∃b n D,e=.returned (.map (some b))/\w.heap.size<=b/\b<w'.heap.size/\n<=200000/\MpI w' b n D F/\Below w.heap.size w w'
theorem up1 {e:DV}{i j:Nat}{F:Nat->Option Nat}:upK [e] i j F=if e.kind=1 then (i+1,j+1,fun x=>if x=i then some j else F x) else if e.kind=2 then (i+1,j,F) else if e.kind=3 then (i,j+1,F) else (i,j,F):=by
 simp only[upK]
theorem aWq {A B:Option Addr}{n ca m cb:Nat}{a b:List ByteArray}{w:World}(hn:n<=100000)(hm:m<=100000)(ha:Rd w w.heap.size 1 A n ca (a.map .string))(hb:Rd w w.heap.size 1 B m cb (b.map .string)) :
  Calls Tryz.prog 215 #[.slice A n ca,.slice B m cb] w (KeptIs (keptAt a b) w):=by
 have hla:a.length=n:=by have:=ha.len;rw[List.length_map] at this;omega
 have hlb:b.length=m:=by have:=hb.len;rw[List.length_map] at this;omega
 have hsl:=aYw a b
 rw[hla,hlb] at hsl
 have HUP:=hid (bGs a b)
 have hb0:Below w.heap.size w (w.alloc (.map #[] 0)):=(Below.refl _ _).alloc (Nat.le_refl _) _
 have HM0:=hid (MpI.start w)
 have HS:=aUu (w:=w.alloc (.map #[] 0)) hn hm (ha.to hb0 hb0.size) (hb.to hb0 hb0.size)
 have hz0:w.heap.size<(w.alloc (.map #[] 0)).heap.size:=by simp
 have HB0:=hid hb0
 clear hb0 hla hlb ha hb
 generalize script a b=S at *
 generalize keptAt a b=FF at *
 have hmm:=@run_makeMap Tryz.prog
 go_enter Tryz.func215,Tryz.ntmps215
 go_wp2_with fail
 refine HS.mono ?_
 rintro e w1 ⟨v,rfl,ho,hb1⟩
 obtain ⟨A1,c1,rfl,hc1⟩:=aAd ho
 have HR:=hid (Rd.of_own ho hc1)
 have HW1:=hid (HB0.out.trans (hb1.mono HB0.out.size))
 have HM1:=hid (HM0.out.below hb1)
 have hbs:=Nat.lt_of_lt_of_le hz0 hb1.size
 have HGE:=hid (fun (g:Nat) (hg:(Value.slice A1 S.length c1).ownBlock=some g)=>(ho.lt g hg).1)
 have HZ:=hid hz0
 clear HS ho hb1 hc1 HM0 HB0 hz0
 generalize w.alloc (.map #[] 0)=w0 at *
 go_wp2
 go_loopw[6,7,15] (fun t6 t7 t15 wr=>∃(k nn:Nat) (D:DataW Value),k<=S.length/\t15=.int .i64 k/\t6=.int .i64 ((upK (S.take k) 0 0 (fun _=>none)).1:Nat)/\t7=.int .i64 ((upK (S.take k) 0 0 (fun _=>none)).2.1:Nat)/\nn<=k/\Hid (Below w.heap.size w wr)/\Hid (Keeps [w.heap.size] w1 wr)/\Hid (MpI wr w.heap.size nn D (upK (S.take k) 0 0 (fun _=>none)).2.2)) (fun _ _ t15 _=>S.length-(intOf t15).toNat)
 case atStart=>exact ⟨0,0,_,Nat.zero_le _,rfl,rfl,rfl,Nat.le_refl _,HW1,hid (Keeps.refl _ _),HM1⟩
 obtain ⟨k,nn,D,hk,rfl,rfl,rfl,hnn,HW,HG,HM⟩:=hrel
 clear HM1 HW1
 have hle:=aTa (S.take k) 0 0 (fun _=>none)
 rw[List.length_take] at hle
 by_cases hlt:k<S.length
 ·obtain ⟨b0,o0,e,hA1,hbb,hx,_,hc⟩:=T.rd_flat DV.cells_len (by omega) HR.out rfl hlt
  cases hA1
  have hne:b0∉[w.heap.size]:=by
   have h1:=HGE.out b0 rfl
   have h2:=HZ.out
   simp;omega
  have c0:=(HG.out.2 ⟨b0,o0+k*2,none⟩ hbb hne).trans (hc 0 _ rfl)
  have c1:=(HG.out.2 ⟨b0,o0+k*2+1,none⟩ hbb hne).trans (hc 1 _ rfl)
  have HX:=hid (show upK (S.take (k+1)) 0 0 (fun _=>none)=upK [e] (upK (S.take k) 0 0 (fun _=>none)).1 (upK (S.take k) 0 0 (fun _=>none)).2.1 (upK (S.take k) 0 0 (fun _=>none)).2.2 by
   rw[List.take_add_one,hx];exact aHw _ _ _ _ _)
  clear hx hc
  generalize (upK (S.take k) 0 0 (fun _=>none)).1=I at *
  generalize (upK (S.take k) 0 0 (fun _=>none)).2.1=J at *
  generalize (upK (S.take k) 0 0 (fun _=>none)).2.2=F at *
  obtain ⟨hI,hJ⟩:=hle
  have hI2:I<=200000:=by omega
  have hJ2:J<=200000:=by omega
  clear hI hJ
  have HWa:=hid (HW.out.alloc HW.out.size (.cells #[.int .i64 e.kind,.string e.line] 193))
  have HGa:=hid (HG.out.trans (Keeps.of_below ((Below.refl wr.heap.size wr).alloc (Nat.le_refl _) (.cells #[.int .i64 e.kind,.string e.line] 193))))
  have HMa:=hid (HM.out.kept (World.grownBy_alloc wr (.cells #[.int .i64 e.kind,.string e.line] 193) none) (by simp))
  clear HW HG HM
  obtain ⟨kd,ln⟩:=e
  simp only at c0 c1 HWa HGa HMa
  by_cases h1:kd=1
  ·subst h1
   have HX:=hid (HX.out.trans (up1.trans (if_pos rfl)))
   go_wp2_with (at_mapUpdate;refine wpList_mapUpdate_own _ rfl _ _ _ 269 rfl 3 3 KI Tryz.underlying269 Rv w.heap.size nn D rfl HMa.out.own (by unfold maxLen;omega) _ _ _ rfl rfl (keyI (by omega)) _ [] rfl ?_;intro w5 hown5 hg5)
   have HW5:=hid (HWa.out.grown hg5 HWa.out.size (fun g hg=>by injection hg with hg;omega))
   have HG5:=hid (HGa.out.trans (Keeps.grown (l:=[w.heap.size]) hg5 (fun g hg=>by injection hg with hg;simp[hg])))
   have HM5:=hid (HMa.out.put (i:=I) (j:=J) (F':=fun x=>if x=I then some J else F x) (by omega) hown5 (fun x=>rfl))
   clear HWa HGa HMa hown5 hg5
   go_roundw
   case rel=>exact ⟨k+1,nn+1,_,by omega,by go_num,by rw[HX.out];go_num,by rw[HX.out];go_num,by omega,HW5,HG5,by rw[HX.out];exact HM5⟩
   simp[intOf];omega
  by_cases h2:kd=2
  ·subst h2
   have HX:=hid (HX.out.trans (up1.trans ((if_neg (by simp)).trans (if_pos rfl))))
   go_wp2
   go_roundw
   case rel=>exact ⟨k+1,nn,_,by omega,by go_num,by rw[HX.out];go_num,by rw[HX.out],by omega,HWa,HGa,by rw[HX.out];exact HMa⟩
   simp[intOf];omega
  by_cases h3:kd=3
  ·subst h3
   have HX:=hid (HX.out.trans (up1.trans ((if_neg (by simp)).trans ((if_neg (by simp)).trans (if_pos rfl)))))
   go_wp2
   go_roundw
   case rel=>exact ⟨k+1,nn,_,by omega,by go_num,by rw[HX.out],by rw[HX.out];go_num,by omega,HWa,HGa,by rw[HX.out];exact HMa⟩
   simp[intOf];omega
  have HX:=hid (HX.out.trans (up1.trans ((if_neg h1).trans ((if_neg h2).trans (if_neg h3)))))
  go_wp2
  go_roundw
  case rel=>exact ⟨k+1,nn,_,by omega,by go_num,by rw[HX.out],by rw[HX.out],by omega,HWa,HGa,by rw[HX.out];exact HMa⟩
  simp[intOf];omega
 obtain rfl:k=S.length:=by omega
 rw[List.take_of_length_le (Nat.le_refl _)] at *
 go_wp2
 go_ret
 refine ⟨_,nn,D,rfl,Nat.le_refl _,HM.out.own.lt,by omega,?_,HW.out⟩
 have h:=HM.out
 rw[show (upK S 0 0 (fun _=>none)).2.2=FF from funext HUP.out] at h
 exact h
theorem wideP2:(match Tryz.prog.underlying 273 with | some (.array _ _) | some (.struct _)=>true | _=>false)=true:=by kernel_rfl
theorem KP2:Maps.Keyed Tryz.prog 273:=Maps.Keyed.of_law (deep_law_laid T.laidOut (m:=2) (by omega) (of_decide_eq_true (by kernel_rfl)) (by kernel_rfl) wideP2)
def kl2 (x y:Nat):Lit:=.string (keyBytes [.int .i64 (x:Int),.int .i64 (y:Int)])
theorem bEg {P : Program} {t e : TypeId} {f g : Field} (hu : P.underlying t = some (.struct #[f, g])) (hft : f.type = e) (hgt : g.type = e) (hfo : f.offset = 0) (hgo : g.offset = 1) (hfn : (f.name != "_") = true) (hgn : (g.name != "_") = true) (hct : P.cellsOf t = 2) (hce : P.cellsOf e = 1)
  (hue:P.underlying e=some (.int .i64)) (hk:P.keyType t=true) (hp:0<P.types.size) {x y:Nat} (hx:x<=1000000000) (hy:y<=1000000000):keyOf P t (.agg #[.int .i64 (x:Int),.int .i64 (y:Int)])=some (kl2 x y):=by
 obtain ⟨k,hs⟩:∃k,P.types.size=k+1:=⟨P.types.size-1,by omega⟩
 have h0:P.keyLits (k+1) e [.int .i64 (x:Int)]=some [.int .i64 (x:Int)]:=by simp[Program.keyLits,hue,bDx hx]
 have h1:P.keyLits (k+1) e [.int .i64 (y:Int)]=some [.int .i64 (y:Int)]:=by simp[Program.keyLits,hue,bDx hy]
 have h2:P.keyLits (k+1+1) t [.int .i64 (x:Int),.int .i64 (y:Int)]=some [.int .i64 (x:Int),.int .i64 (y:Int)]:=by
  unfold Program.keyLits
  simp only[hu]
  have hfn' : ¬ f.name = "_" := by simpa using hfn
  have hgn' : ¬ g.name = "_" := by simpa using hgn
  simp[hct,hft,hgt,hfo,hgo,hce,h0,h1,hfn',hgn']
 simp[keyOf,hu,hk,Value.formed,hct,Value.cells,hs,h2,kl2]
theorem aZt:Tryz.prog.keyType 273=true:=by kernel_rfl
theorem cellsP2:Tryz.prog.cellsOf 273=2:=by kernel_rfl
theorem aMn:Tryz.prog.cellsOf 3=1:=by kernel_rfl
theorem keyP2 {x y:Nat}(hx:x<=1000000000)(hy:y<=1000000000):keyOf Tryz.prog 273 (.agg #[.int .i64 (x:Int),.int .i64 (y:Int)])=some (kl2 x y):=
 bEg Tryz.underlying273 rfl rfl rfl rfl rfl rfl cellsP2 aMn Tryz.underlying3 aZt T.types_pos hx hy
theorem bHr {x y x' y':Nat}(hx:x<=1000000000)(hy:y<=1000000000) (hx':x'<=1000000000) (hy':y'<=1000000000)(h:¬(x=x'/\y=y')):kl2 x y≠kl2 x' y':=fun e=>by
 have h1:=keyP2 hx hy
 rw[e] at h1
 have:=KP2.inj h1 (keyP2 hx' hy')
 simp at this
 exact h ⟨by omega,by omega⟩
structure MpP (w:World) (b n:Nat) (D:DataW Value) (G:Nat->Nat->Option Nat):Prop where
 own:w.ownsMap Tryz.prog 273 Rv b n D
 at_:∀x y:Nat,x<=1000000000->y<=1000000000->D.atKey (kl2 x y) (.held (.int .i64 0))=.held (.int .i64 (((G x y).getD 0:Nat):Int))
 has:∀x y:Nat,x<=1000000000->y<=1000000000->Maps.has D (kl2 x y)=(G x y).isSome
theorem MpP.start (w:World):MpP (w.alloc (.map #[] 0)) w.heap.size 0 (.map []) (fun _ _=>none):=
 ⟨World.ownsMap_made _ _ _ _,fun _x _y _ _=>rfl,fun _x _y _ _=>rfl⟩
theorem MpP.put {w w':World}{b n:Nat}{D:DataW Value} {G G':Nat->Nat->Option Nat}{p q j:Nat}(h:MpP w b n D G)(hp:p<=1000000000)(hq:q<=1000000000)
  (hown:w'.ownsMap Tryz.prog 273 Rv b (n+1) (D.put (kl2 p q) (.held (.int .i64 (j:Int))))) (hG:∀x y,G' x y=if x=p/\y=q then some j else G x y) :
  MpP w' b (n+1) (D.put (kl2 p q) (.held (.int .i64 (j:Int)))) G':=by
 refine ⟨hown,fun x y hx hy=>?_,fun x y hx hy=>?_⟩
 ·by_cases e:x=p/\y=q
  ·obtain ⟨rfl,rfl⟩:=e
   rw[Maps.atKey_put_same h.own.isMap (KP2.key (keyP2 hp hq)),hG,if_pos ⟨rfl,rfl⟩];rfl
  rw[Maps.atKey_put_other (bHr hx hy hp hq e),h.at_ x y hx hy,hG,if_neg e]
 by_cases e:x=p/\y=q
 ·obtain ⟨rfl,rfl⟩:=e
  rw[Maps.has_put_same h.own.isMap (KP2.key (keyP2 hp hq)),hG,if_pos ⟨rfl,rfl⟩];rfl
 rw[Maps.has_put_other (bHr hx hy hp hq e),h.has x y hx hy,hG,if_neg e]
theorem MpP.kept {w w':World}{b n:Nat}{D:DataW Value}{G:Nat->Nat->Option Nat}{row:Option Nat}(h:MpP w b n D G)(hg:w.grownBy w' row)(hne:some b≠row):MpP w' b n D G:=
 ⟨h.own.kept hg hne,h.at_,h.has⟩
theorem MpP.below {w w':World}{b n:Nat}{D:DataW Value}{G:Nat->Nat->Option Nat}(h:MpP w b n D G)(hb:Below w.heap.size w w'):MpP w' b n D G:=
 h.kept (row:=none) ⟨hb.os,hb.tape,hb.output,hb.size,fun k hk _=>hb.block k hk⟩ (by simp)
theorem MpP.look {w:World}{b n:Nat}{D:DataW Value}{G:Nat->Nat->Option Nat}(h:MpP w b n D G){x y:Nat}(hx:x<=1000000000)(hy:y<=1000000000) :
  (Instr.lookup 271 (.map (some b)) (.agg #[.int .i64 (x:Int),.int .i64 (y:Int)]) true).run Tryz.prog w=.ok (.tuple #[.int .i64 (((G x y).getD 0:Nat):Int),.bool (G x y).isSome]) w:=by
 obtain ⟨v,ps,hrun,hv⟩:=h.own.look_ok KP2 Tryz.underlying271 (Tryz.zeroValue3 w) (show Rv (.int .i64 0)=some (.held (.int .i64 0),[]) from rfl) (keyP2 hx hy)
 rw[h.at_ x y hx hy] at hv
 rw[h.has x y hx hy] at hrun
 have:v=.int .i64 (((G x y).getD 0:Nat):Int):=by
  have h1:(DataW.held v:DataW Value)=.held (.int .i64 (((G x y).getD 0:Nat):Int)):=by
   have:=hv
   simp only[Rv,Option.some.injEq,Prod.mk.injEq] at this
   exact this.1
  exact aGc h1
 rw[this] at hrun
 exact hrun
def firmF (F1 F2:Nat->Option Nat):Nat->Nat->Nat->Option Nat
 | 0,_,_=>none
 | k+1,x,y=>if F1 k=some x/\F2 k=some y then some k else firmF F1 F2 k x y
theorem aNr {F1 F2:Nat->Option Nat}:∀{k x y j:Nat},firmF F1 F2 k x y=some j->j<k/\F1 j=some x/\F2 j=some y
 | 0,_,_,_,h=>by simp[firmF] at h
 | k+1,x,y,j,h=>by
  rw[firmF] at h
  split at h
  ·rename_i e;injection h with h;subst h;exact ⟨by omega,e⟩
  obtain ⟨h1,h2⟩:=aNr h;exact ⟨by omega,h2⟩
theorem aXz {F1 F2:Nat->Option Nat}(hup:∀i i' x,i<i'->F1 i=some x->F1 i'≠some x):∀{k x y j:Nat},j<k->F1 j=some x->F2 j=some y->firmF F1 F2 k x y=some j
 | 0,_,_,_,h,_,_=>by omega
 | k+1,x,y,j,h,h1,h2=>by
  rw[firmF]
  by_cases e:j=k
  ·subst e;rw[if_pos ⟨h1,h2⟩]
  rw[if_neg (fun e2=>hup j k x (by omega) h1 e2.1)]
  exact aXz hup (by omega) h1 h2
section
variable {base ours theirs:List ByteArray}
theorem aCq {x y:Nat}(h:keptAt base ours x=some y):x<base.length/\y<ours.length:=by
 unfold keptAt at h
 cases e:(placeF base ours)[x]? with
 | none=>rw[e] at h;cases h
 | some z=>
  rw[e] at h
  have hz:z=some y:=h
  subst hz
  have h1:=(List.getElem?_eq_some_iff.1 e).1
  rw[(aDj base ours).len] at h1
  exact ⟨h1,((aDj base ours).at_ _ _ e).1⟩
theorem aMu {i i' x:Nat}(hi:i<i')(h:keptAt base ours i=some x):keptAt base ours i'≠some x:=fun h'=>by
 have g:∀{i x:Nat},keptAt base ours i=some x->(placeF base ours)[i]? = some (some x):=fun {i x} h=>by
  unfold keptAt at h
  cases e:(placeF base ours)[i]? with
  | none=>rw[e] at h;cases h
  | some z=>rw[e] at h;have hz:z=some x:=h;rw[hz]
 have:=(aDj base ours).up i i' x x hi (g h) (g h')
 omega
theorem bAv (base ours theirs:List ByteArray)(i:Nat)(hi:i<base.length):((placeF base ours).zip (placeF base theirs))[i]? = some (keptAt base ours i,keptAt base theirs i):=by
 have h1:i<(placeF base ours).length:=by rw[(aDj base ours).len];exact hi
 have h2:i<(placeF base theirs).length:=by rw[(aDj base theirs).len];exact hi
 rw[List.getElem?_zip_eq_some]
 unfold keptAt
 rw[List.getElem?_eq_getElem h1,List.getElem?_eq_getElem h2]
 exact ⟨rfl,rfl⟩
structure OfAt (base ours theirs:List ByteArray) (i b o t:Nat) (L:List KV):Prop where
 hb:b<=i
 hi:i<=base.length
 ho:o<=ours.length
 ht:t<=theirs.length
 len:L.length<=2*i
 ge:∀i' x y,i<=i'->keptAt base ours i'=some x->keptAt base theirs i'=some y->o<=x/\t<=y
 fin:∃fuel,base.length<=i+fuel/\chunksF base ours theirs=L++goF base ours theirs ((placeF base ours).zip (placeF base theirs)) fuel i b o t
theorem OfAt.start (base ours theirs:List ByteArray):OfAt base ours theirs 0 0 0 0 []:=
 ⟨Nat.le_refl _,Nat.zero_le _,Nat.zero_le _,Nat.zero_le _,Nat.zero_le _,fun _ _ _ _ _ _=>⟨Nat.zero_le _,Nat.zero_le _⟩,base.length,by omega,rfl⟩
theorem OfAt.skip {i b o t:Nat}{L:List KV}(h:OfAt base ours theirs i b o t L)(hi:i<base.length)(hn:¬((keptAt base ours i).isSome=true/\(keptAt base theirs i).isSome=true)):OfAt base ours theirs (i+1) b o t L:=by
 refine ⟨by have:=h.hb;omega,hi,h.ho,h.ht,by have:=h.len;omega,fun i' x y hi'=>h.ge i' x y (by omega),?_⟩
 obtain ⟨fuel,h1,h2⟩:=h.fin
 obtain ⟨f,rfl⟩:∃f,fuel=f+1:=⟨fuel-1,by omega⟩
 refine ⟨f,by omega,?_⟩
 rw[h2,goF,bAv base ours theirs i hi]
 cases e1:keptAt base ours i with
 | none=>rfl
 | some x=>
  cases e2:keptAt base theirs i with
  | none=>rfl
  | some y=>rw[e1,e2] at hn;simp at hn
theorem bEx:∀{k:Nat} {zs:List (Option Nat×Option Nat)} {p q:Nat},(∀j,j<k->zs[j]? = some (some (p+j),some (q+j)))->zs[k]?≠some (some (p+k),some (q+k))->runF zs p q=k
 | 0,[],p,q,_,_=>rfl
 | 0,(none,_)::zs,p,q,_,_=>rfl
 | 0,(some x,none)::zs,p,q,_,_=>rfl
 | 0,(some x,some y)::zs,p,q,_,h=>by
  rw[runF,if_neg]
  rintro ⟨rfl,rfl⟩
  exact h rfl
 | k+1,[],p,q,h,_=>by have:=h 0 (by omega);cases this
 | k+1,z::zs,p,q,h,h2=>by
  have h0:=h 0 (by omega)
  simp only[List.getElem?_cons_zero,Nat.add_zero] at h0
  injection h0 with h0;subst h0
  rw[runF,if_pos ⟨rfl,rfl⟩,bEx (k:=k)]
  ·intro j hj
   have:=h (j+1) (by omega)
   rw[List.getElem?_cons_succ] at this
   rw[this,show p+1+j=p+(j+1) by omega,show q+1+j=q+(j+1) by omega]
  intro e
  refine h2 ?_
  rw[List.getElem?_cons_succ,e,show p+1+k=p+(k+1) by omega,show q+1+k=q+(k+1) by omega]
def RunTo (base ours theirs:List ByteArray)(i x y n:Nat):Prop:=∀k,k<n->keptAt base ours (i+k)=some (x+k)/\keptAt base theirs (i+k)=some (y+k)
theorem OfAt.run {i b o t x y n:Nat}{L:List KV}(h:OfAt base ours theirs i b o t L)(hn:0<n)(hr:RunTo base ours theirs i x y n)(hs:¬(keptAt base ours (i+n)=some (x+n)/\keptAt base theirs (i+n)=some (y+n))) :
  OfAt base ours theirs (i+n) (i+n) (x+n) (y+n) (L++betweenF (sliceF base b i) (sliceF ours o x) (sliceF theirs t y)++[⟨1,sliceF base i (i+n),sliceF base i (i+n),sliceF base i (i+n)⟩])/\o<=x/\t<=y/\i+n<=base.length/\x+n<=ours.length/\y+n<=theirs.length:=by
 obtain ⟨a0,c0⟩:=hr 0 hn
 rw[Nat.add_zero,Nat.add_zero] at a0 c0
 obtain ⟨a1,c1⟩:=hr (n-1) (by omega)
 have l1:=aCq a1
 have l2:=aCq c1
 have l0:=aCq a0
 obtain ⟨g1,g2⟩:=h.ge i x y (Nat.le_refl _) a0 c0
 have hbl:(betweenF (sliceF base b i) (sliceF ours o x) (sliceF theirs t y)).length<=1:=by unfold betweenF;split<;>simp
 refine ⟨⟨Nat.le_refl _,by omega,by omega,by omega,by have:=h.len;simp only[List.length_append,List.length_singleton];omega,fun i' x' y' hi' h1 h2=>?_,?_⟩,g1,g2,by omega,by omega,by omega⟩
 ·have Z:=aPz base ours theirs
  have l3:=aCq h1
  have u:=Z.up (i+(n-1)) i' _ x' _ y' (by omega) (by rw[bAv base ours theirs _ l1.1,a1,c1]) (by rw[bAv base ours theirs _ l3.1,h1,h2])
  omega
 obtain ⟨fuel,f1,f2⟩:=h.fin
 obtain ⟨f,rfl⟩:∃f,fuel=f+1:=⟨fuel-1,by omega⟩
 have hrun:runF (((placeF base ours).zip (placeF base theirs)).drop (i+1)) (x+1) (y+1)=n-1:=by
  refine bEx (fun j hj=>?_) (fun e=>?_)
  ·obtain ⟨p1,p2⟩:=hr (j+1) (by omega)
   rw[List.getElem?_drop,show i+1+j=i+(j+1) by omega,bAv base ours theirs _ (aCq p1).1,p1,p2,show x+1+j=x+(j+1) by omega,show y+1+j=y+(j+1) by omega]
  rw[List.getElem?_drop,show i+1+(n-1)=i+n by omega] at e
  rcases Nat.lt_or_ge (i+n) base.length with hl | hl
  ·rw[bAv base ours theirs _ hl] at e
   injection e with e;injection e with e1 e2
   exact hs ⟨by rw[e1,show x+1+(n-1)=x+n by omega],by rw[e2,show y+1+(n-1)=y+n by omega]⟩
  rw[List.getElem?_eq_none (by rw[(aPz base ours theirs).len];exact hl)] at e;cases e
 refine ⟨f,by omega,?_⟩
 rw[f2,goF,bAv base ours theirs i l0.1,a0,c0]
 simp only[hrun]
 rw[show n-1+1=n by omega,List.append_assoc,List.append_assoc,List.singleton_append]
theorem OfAt.last {b o t i:Nat}{L:List KV}(h:OfAt base ours theirs i b o t L)(hi:base.length<=i):chunksF base ours theirs=L++betweenF (sliceF base b base.length) (sliceF ours o ours.length) (sliceF theirs t theirs.length):=by
 obtain ⟨fuel,f1,f2⟩:=h.fin
 rw[f2]
 have e:goF base ours theirs ((placeF base ours).zip (placeF base theirs)) fuel i b o t=betweenF (base.drop b) (ours.drop o) (theirs.drop t):=by
  cases fuel with
  | zero=>rw[goF]
  | succ f=>rw[goF,List.getElem?_eq_none (by rw[(aPz base ours theirs).len];exact hi)]
 rw[e]
 simp[sliceF]
end
theorem aYy {w:World}{m1 m2 ba bb n1 n2 i:Nat}{D1 D2:DataW Value}{F1 F2:Nat->Option Nat}(hi:i<=1000000)(h1:MpI w m1 n1 D1 F1)(h2:MpI w m2 n2 D2 F2)
  (c1:w.cell? ⟨ba,0,none⟩=some (.map (some m1))) (c2:w.cell? ⟨bb,0,none⟩=some (.map (some m2))) (hba:ba<w.heap.size) (hbb:bb<w.heap.size) :
  Calls Tryz.prog 216 #[.int .i64 i,.pointer (some ⟨ba,0,none⟩),.pointer (some ⟨bb,0,none⟩)] w fun e w'=>e=.returned (.tuple #[.agg #[.int .i64 ((F1 i).getD 0:Nat),.int .i64 ((F2 i).getD 0:Nat)],.bool ((F1 i).isSome && (F2 i).isSome)])/\Below w.heap.size w w':=by
 have hb:Below w.heap.size w (w.alloc (.cells #[.int .i64 0,.int .i64 0] 273)):=(Below.refl _ _).alloc (Nat.le_refl _) _
 have l1:=(h1.below hb).look (x:=i) (by omega)
 have l2:=(h2.below hb).look (x:=i) (by omega)
 have c1:=(hb.cell (p:=⟨ba,0,none⟩) hba).trans c1
 have c2:=(hb.cell (p:=⟨bb,0,none⟩) hbb).trans c2
 have hbox:(w.alloc (.cells #[.int .i64 0,.int .i64 0] 273)).heap[w.heap.size]? = some (.cells #[.int .i64 0,.int .i64 0] 273 (0,0)):=heap_alloc_new _ _
 have HB:=hid hb
 have HBOX:=hid hbox
 clear h1 h2 hb hbox hba hbb
 generalize hx:(F1 i).getD 0=x at *
 generalize hy:(F2 i).getD 0=y at *
 generalize hp:(F1 i).isSome=p at *
 generalize hq:(F2 i).isSome=q at *
 clear hx hy hp hq
 have HR:=hid (setRow_heap (w.alloc (.cells #[.int .i64 0,.int .i64 0] 273)) w.heap.size _ #[.int .i64 x,.int .i64 y] _ _ HBOX.out)
 have hi2:(Tryz.prog.info? 273).map (·.size)=some 2:=by kernel_rfl
 go_enter Tryz.func216,Tryz.ntmps216
 cases p<;>cases q
 all_goals
  go_wp2_with (refine wpList_store_row rfl 273 (.tmp 4) (.tmp 24) rfl w.heap.size #[.int .i64 x,.int .i64 y] rfl rfl _ _ HBOX.out hi2 rfl (by simp[Value.oneCell']) ?_)
  try simp only[Exit.inBlock,Exit.then]
  refine bodyPost_ret (aAm rfl _ _ w.heap.size _ _ (0,0) _ rfl HR.out Tryz.underlying273 rfl (by kernel_rfl)) rfl ?_
  exact ⟨rfl,aAj HB.out (Nat.le_refl _)⟩
end Go.Proofs.YtohblmepajhpaaaGreatDoor
