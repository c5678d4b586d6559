/- Texts of the walks, together: Walk: play.Tree. Walks: few and awake of the laws of merged trees. The table of what two texts have in common, in memory. Walk: the document's table. Walks: the document's Split and Common. -/
import Derived.Test.YtcemkikgaeghjaaGreatDoorG09
import Derived.Test.YtcemkikgaeghjaaGreatDoorG10
import Derived.Test.YtcemkikgaeghjaaGreatDoorG12
import Derived.Test.YtcemkikgaeghjaaGreatDoorG33
set_option maxHeartbeats 8000000
set_option maxRecDepth 100000
open Go.Lib (hid)
namespace Go.Proofs.YtcemkikgaeghjaaGreatDoor
open Go.RowKit
theorem aYe {l:List FV}{k:Nat}{f:FV}(_hk:k<30)(hx:l[k]? = some f):(l.take (k+1)).foldl playStep []=playStep ((l.take k).foldl playStep []) f:=by
 rw[List.take_add_one,hx,List.foldl_append];rfl
theorem aRn {A:Option Addr}{n c:Nat}{l:List FV}{w:World}(hn:n<=17592186044416)(h:RdF w w.heap.size A n c l) :
  Calls Tryz.prog 12 #[.slice A n c] w (FilesIsN (·=playF l) w):=by
 have HL:=hid h.len
 go_enter Tryz.func12,Tryz.ntmps12
 go_wp2
 go_loopw[3,4] (fun lv i wr=>∃(k:Nat) (A':Option Addr) (c':Nat) (out:List FV),k<=n/\k<=30/\i=.int .i64 k/\lv=.slice A' out.length c'/\Hid (out=(l.take k).foldl playStep [])/\RdF wr wr.heap.size A' out.length c' out/\Below w.heap.size w wr/\Hid (NewAt A' w.heap.size)) (fun _ i _=>n-(intOf i).toNat)
 case atStart=>exact ⟨0,none,0,[],Nat.zero_le _,Nat.zero_le _,rfl,rfl,by rw[List.take_zero];exact hid rfl,RdF.none_ _ _,Below.refl _ _,NewAt.none_ _⟩
 obtain ⟨k,A',c',out,hk,hk30,rfl,rfl,hO,hr,hb,hN⟩:=hrel
 have FIN:k=n\/k=30->FilesIsN (·=playF l) w (.returned (.slice A' out.length c')) wr:=fun e=>⟨A',c',out,rfl,by
  rw[hO.out,playF]
  rcases e with e | e
  ·subst e
   have hl:l.length=k:=HL.out
   rw[List.take_of_length_le (by omega),List.take_of_length_le (by omega)]
  rw[e],hr,hb,hN.out⟩
 have HFIN:=hid FIN
 clear FIN
 by_cases hlt:k<n
 ·by_cases hlt2:k<30
  ·obtain ⟨b0,o0,f,rfl,hbb,hx,hfm,h0,h1,h2⟩:=h.get hlt
   replace h0:=(hb.cell (p:=⟨b0,o0+k*3,none⟩) (by show b0<_;omega)).trans h0
   replace h1:=(hb.cell (p:=⟨b0,o0+k*3+1,none⟩) (by show b0<_;omega)).trans h1
   replace h2:=(hb.cell (p:=⟨b0,o0+k*3+2,none⟩) (by show b0<_;omega)).trans h2
   have hff:=h.fits f hfm
   have HN:=hid (show (l.take (k+1)).foldl playStep []=playStep out f by rw[hO.out];exact aYe hlt2 hx)
   clear hx
   by_cases hq:2000<f.text.size
   ·have HS:=hid (show playStep out f=out by rw[playStep,if_pos hq])
    go_wp2
    go_roundw
    case rel=>exact ⟨k+1,A',c',out,by omega,by omega,by go_num,rfl,by rw[HN.out,HS.out];exact hid rfl,hr,hb,hN⟩
    simp[intOf];omega
   have hol:out.length<=30:=by
    have h3:=(aEp (l.take k) aGv).2
    rw[<-hO.out] at h3
    have:=List.length_take_le k l
    simp only[List.length_nil] at h3
    omega
   go_wp2_with fail
   refine (bDy (f:=f) (by omega) hr hff).mono ?_
   rintro e w1 ⟨A1,c1,rfl,hr1,hb1,hN1⟩
   have HN1:=hid (show NewAt A1 w.heap.size from fun b o s hA=>Nat.le_trans hb.size (hN1 b o s hA))
   clear hN1
   have hbb1:=hb.trans (hb1.mono hb.size)
   have hr0:=hr.to hb1 hb1.size
   clear hr hb hb1 h0 h1 h2
   by_cases hz:(putF out f).2=0
   ·have HS:=hid (show playStep out f=(putF out f).1 by rw[playStep,if_neg hq,if_pos hz])
    generalize putF out f=r at *
    obtain ⟨rl,rk⟩:=r
    obtain rfl:rk=0:=hz
    clear hq hr0
    go_wp2
    go_roundw
    case rel=>exact ⟨k+1,A1,c1,rl,by omega,by omega,by go_num,rfl,by rw[HN.out,HS.out];exact hid rfl,hr1,hbb1,HN1⟩
    simp[intOf];omega
   have HS:=hid (show playStep out f=out by rw[playStep,if_neg hq,if_neg hz])
   generalize putF out f=r at *
   obtain ⟨rl,rk⟩:=r
   have hz':¬rk=0:=hz
   clear hq hr1
   go_wp2
   go_roundw
   case rel=>exact ⟨k+1,A',c',out,by omega,by omega,by go_num,rfl,by rw[HN.out,HS.out];exact hid rfl,hr0,hbb1,hN⟩
   simp[intOf];omega
  have e:=HFIN.out (.inr (by omega))
  have he:=hid e
  clear e
  go_wp2
  go_ret
  exact he.out
 have e:=HFIN.out (.inl (by omega))
 have he:=hid e
 clear e
 go_wp2
 go_ret
 exact he.out
theorem aFw {A:Option Addr}{n c:Nat}{l:List FV}{w:World}(hn:n<=17592186044416)(h:RdF w w.heap.size A n c l) :
  Calls Tryz.prog 12 #[.slice A n c] w (FilesIs (·=playF l) w):=(aRn hn h).mono fun _ _ h=>h.old
def textSum (l:List FV):Nat:=(l.map fun f=>f.text.size).sum
def few14 (l:List FV):Bool:=decide (l.length<=20) && decide (textSum l<=2000)
theorem aRd (l:List FV)(f:FV):textSum (l++[f])=textSum l+f.text.size:=by simp[textSum]
theorem aOh:∀(l:List FV),(∀f∈l,f.text.size<=140737488351232)->textSum l<=l.length*140737488351232
 | [],_=>by simp[textSum]
 | f::l,h=>by
  have h1:=aOh l fun g hg=>h g (List.mem_cons_of_mem _ hg)
  have h2:=h f List.mem_cons_self
  have e:textSum (f::l)=f.text.size+textSum l:=by simp[textSum]
  rw[e,List.length_cons];omega
theorem bBy {A:Option Addr}{n c:Nat}{l:List FV}{w:World}(hn:n<=17592186044416)(h:RdF w w.heap.size A n c l) :
  Calls Tryz.prog 10 #[.slice A n c] w fun e w'=>e=.returned (.bool (few14 l))/\w'=w:=by
 have HL:=hid h.len
 have HF:=hid h.fits
 go_enter Tryz.func10,Tryz.ntmps10
 go_wp2
 go_loopw[3,4] (fun m i wr=>wr=w/\∃(k:Nat) (z:Int),k<=n/\i=.int .i64 k/\m=.int .i64 z/\Hid (k<=20->z=(textSum (l.take k):Nat))) (fun _ i _=>n-(intOf i).toNat)
 case atStart=>exact ⟨rfl,0,0,Nat.zero_le _,rfl,rfl,hid fun _=>rfl⟩
 obtain ⟨rfl,k,z,hk,rfl,rfl,HK⟩:=hrel
 by_cases hlt:k<n
 ·obtain ⟨b0,o0,f,rfl,hbb,hx,hfm,h0,h1,h2⟩:=h.get hlt
  clear h0 h1
  by_cases hk20:k<20
  ·obtain ⟨s,hs⟩:∃s,s=textSum (l.take k):=⟨_,rfl⟩
   have hz:=HK.out (by omega)
   rw[<-hs] at hz
   have hsb:s<=2814749767024640:=by
    have:=aOh (l.take k) fun g hg=>(HF.out g (List.mem_of_mem_take hg)).2
    rw[<-hs,List.length_take] at this
    have h3:=Nat.mul_le_mul_right 140737488351232 (show min k l.length<=20 by omega)
    omega
   have HN:=hid (show s+f.text.size=textSum (l.take (k+1)) by rw[List.take_add_one,hx,hs];exact (aRd _ _).symm)
   have hz2:f.text.size<=140737488351232:=(h.fits f hfm).2
   subst hz
   clear hx hfm hs
   go_wp2
   go_roundw
   case rel=>exact ⟨trivial,k+1,((s+f.text.size:Nat):Int),by omega,by go_num,by go_num,hid fun _=>by rw[HN.out]⟩
   simp[intOf];omega
  clear hx hfm
  go_wp2
  go_roundw
  case rel=>exact ⟨trivial,k+1,_,by omega,by go_num,rfl,hid fun h=>by omega⟩
  simp[intOf];omega
 have hkn:k=n:=by omega
 subst hkn
 by_cases q1:k<=20
 ·have hz:=HK.out q1
  rw[List.take_of_length_le (by rw[HL.out];exact Nat.le_refl _)] at hz
  clear HK
  by_cases q2:textSum l<=2000
  ·have HO:=hid (show few14 l=true by unfold few14;rw[HL.out];simp[q1,q2])
   have q3:z<=2000:=by omega
   clear hz
   go_wp2
   go_ret
   exact ⟨aAl (by first | (rw[HO.out];done) | (rw[HO.out];exact decide_eq_true (by omega))),rfl⟩
  have HO:=hid (show few14 l=false by unfold few14;rw[HL.out];simp[q2])
  have q3:¬z<=2000:=by omega
  clear hz
  go_wp2
  go_ret
  exact ⟨aAl (by first | (rw[HO.out];done) | (rw[HO.out];exact decide_eq_false (by omega))),rfl⟩
 have HO:=hid (show few14 l=false by unfold few14;rw[HL.out];simp[q1])
 go_wp2
 go_ret
 exact ⟨aAl (by first | (rw[HO.out];done) | (rw[HO.out];exact decide_eq_false (by omega))),rfl⟩
theorem aUu {A:Option Addr}{n c:Nat}{l:List FV}{w:World}(hn:n<=17592186044416)(h:RdF w w.heap.size A n c l) :
  Calls Tryz.prog 10 #[.slice A n c] w (BoolBelow (few14 l) w):=(bBy hn h).mono fun _ _ h=>⟨h.1,by rw[h.2];exact Below.refl _ _⟩
def fileWX:Obj:=.cells #[.string ⟨#[97]⟩,.bool false,.string ⟨#[120,10]⟩] 28
theorem bHt (w:World):(Instr.build 28 #[(0,.string ⟨#[97]⟩),(2,.string ⟨#[120,10]⟩)]).run Tryz.prog w=.ok (.agg #[.string ⟨#[97]⟩,.bool false,.string ⟨#[120,10]⟩]) w:=by
 go_simp
theorem bHk (w:World):(Instr.build 28 #[(0,.string ⟨#[97]⟩),(2,.string ⟨#[121,10]⟩)]).run Tryz.prog w=.ok (.agg #[.string ⟨#[97]⟩,.bool false,.string ⟨#[121,10]⟩]) w:=by
 go_simp
theorem bHq (w:World):(Instr.build 28 #[(0,.string ⟨#[98]⟩)]).run Tryz.prog w=.ok (.agg #[.string ⟨#[98]⟩,.bool false,.string ⟨#[]⟩]) w:=by
 go_simp
theorem aUl (w:World)(l:List FV)(xs:Array Value)(hx:xs.toList=l.flatMap FV.cells)(hf:∀f∈l,f.path.size<=140737488351232/\f.text.size<=140737488351232) :
  RdF (w.alloc (.cells xs 28)) (w.alloc (.cells xs 28)).heap.size (some ⟨w.heap.size,0,none⟩) l.length l.length l:=
 ⟨aOc (heap_alloc_new w _) (by rw[FV.len_flat]) (Nat.le_refl _) fun j u hu=>by rw[<-hx] at hu;simpa using hu,rfl,hf⟩
theorem aDr {w:World}(hm:Lm w):Calls Tryz.prog 11 #[] w (BoolBelow true w):=by
 have h1:=fun u=>bHt u
 have h2:=fun u=>bHk u
 have h3:=fun u=>bHq u
 obtain ⟨V1,e1⟩:∃V,V=w.alloc (.cells #[.string ⟨#[97]⟩,.bool false,.string ⟨#[120,10]⟩] 28):=⟨_,rfl⟩
 obtain ⟨V2,e2⟩:∃V,V=V1.alloc (.cells #[.string ⟨#[97]⟩,.bool false,.string ⟨#[121,10]⟩] 28):=⟨_,rfl⟩
 obtain ⟨V3,e3⟩:∃V,V=V2.alloc (.cells #[.string ⟨#[97]⟩,.bool false,.string ⟨#[120,10]⟩,.string ⟨#[98]⟩,.bool false,.string ⟨#[]⟩] 28):=⟨_,rfl⟩
 have b1:Below w.heap.size w V1:=by rw[e1];exact (Below.refl _ _).alloc (Nat.le_refl _) _
 have b2:Below V1.heap.size V1 V2:=by rw[e2];exact (Below.refl _ _).alloc (Nat.le_refl _) _
 have b3:Below V2.heap.size V2 V3:=by rw[e3];exact (Below.refl _ _).alloc (Nat.le_refl _) _
 have s1:V1.heap.size=w.heap.size+1:=by rw[e1];simp
 have s2:V2.heap.size=w.heap.size+1+1:=by rw[e2];simp[s1]
 have b23:=b2.trans (b3.mono b2.size)
 have b13:=b1.trans (b23.mono b1.size)
 have r1:RdF V3 V3.heap.size (some ⟨w.heap.size,0,none⟩) 1 1 [wX]:=(show RdF V1 V1.heap.size (some ⟨w.heap.size,0,none⟩) 1 1 [wX] by rw[e1];exact aUl w [wX] _ rfl (by decide)).to b23 b23.size
 have r2:RdF V3 V3.heap.size (some ⟨w.heap.size+1,0,none⟩) 1 1 [wY]:=(show RdF V2 V2.heap.size (some ⟨w.heap.size+1,0,none⟩) 1 1 [wY] by rw[e2,<-s1];exact aUl V1 [wY] _ rfl (by decide)).to b3 b3.size
 have r3:RdF V3 V3.heap.size (some ⟨w.heap.size+1+1,0,none⟩) 2 2 [wX,wB]:=by rw[e3,<-s2];exact aUl V2 [wX,wB] _ rfl (by decide)
 have K:=aJm (hm.to b13) (by omega) (by omega) (by omega) r1 r2 r3
 rw[aTz] at K
 have HB:=hid b13
 have E3:=hid (show V3=((w.alloc (.cells #[.string ⟨#[97]⟩,.bool false,.string ⟨#[120,10]⟩] 28)).alloc (.cells #[.string ⟨#[97]⟩,.bool false,.string ⟨#[121,10]⟩] 28)).alloc (.cells #[.string ⟨#[97]⟩,.bool false,.string ⟨#[120,10]⟩,.string ⟨#[98]⟩,.bool false,.string ⟨#[]⟩] 28) by rw[e3,e2,e1])
 clear b1 b2 b3 s1 s2 b23 b13 r1 r2 r3 e1 e2 e3
 rw[E3.out] at K
 go_enter Tryz.func11,Tryz.ntmps11
 go_wp2_with fail
 refine K.mono ?_
 rintro e w1 ⟨A,C,c,d,rfl,hr,hc,hb1⟩
 replace hr:RdF w1 w1.heap.size A 2 c [wY,wB]:=hr
 obtain ⟨b0,o0,f,rfl,hbb,hx,hfm,h0,h4,h5⟩:=hr.get (k:=0) (by decide)
 injection hx with hx
 subst hx
 have h6:w1.cell? ⟨b0,o0+2,none⟩=some (.string ⟨#[121,10]⟩):=by simpa[wY] using h5
 have HBB:=hid (HB.out.trans (by rw[<-E3.out] at hb1;exact hb1.mono HB.out.size))
 have l1:((([wY,wB],[],0):List FV×List CL×Int).1.length:Int)=2:=rfl
 have l2:((([wY,wB],[],0):List FV×List CL×Int).2.1.length:Int)=0:=rfl
 dsimp only[List.length_cons,List.length_nil]
 clear K hr hc hb1 h0 h4 h5 hfm h1 h2 h3 E3 HB
 go_wp2
 go_ret
 exact ⟨rfl,HBB.out⟩
def rowP (a b:List ByteArray)(i k:Nat):List Value:=(List.range (b.length+1)).map fun j=>Value.int .i64 ((if k<=j then cel a b i j else 0:Nat):Int)
theorem aWj (a b:List ByteArray)(i k:Nat):(rowP a b i k).length=b.length+1:=by simp[rowP]
theorem aFf {a b:List ByteArray}{i k j:Nat}(hj:j<=b.length)(hk:k<=j):(rowP a b i k)[j]? = some (.int .i64 (cel a b i j)):=by
 simp[rowP,List.getElem?_range (show j<b.length+1 by omega),hk]
theorem bAg (a b:List ByteArray)(i:Nat):rowP a b i b.length=List.replicate (b.length+1) (.int .i64 0):=by
 refine List.ext_getElem (by simp[rowP]) fun j h1 h2=>?_
 simp only[rowP,List.getElem_map,List.getElem_range,List.getElem_replicate]
 simp only[aWj] at h1
 split
 ·rename_i h
  have:j=b.length:=by omega
  subst this
  rw[aUf];rfl
 rfl
theorem bCx (a b:List ByteArray):rowP a b a.length 0=List.replicate (b.length+1) (.int .i64 0):=by
 refine List.ext_getElem (by simp[rowP]) fun j h1 h2=>?_
 simp only[rowP,List.getElem_map,List.getElem_replicate,Nat.zero_le,if_true,aQm];rfl
theorem bEs (a b:List ByteArray)(i k:Nat):(rowP a b i (k+1)).set k (.int .i64 (cel a b i k))=rowP a b i k:=by
 refine List.ext_getElem (by simp[rowP]) fun j h1 h2=>?_
 rw[List.getElem_set]
 split
 ·rename_i h
  subst h
  simp[rowP]
 rename_i h
 simp only[rowP,List.getElem_map,List.getElem_range]
 by_cases hkj:k<=j
 ·rw[if_pos (show k+1<=j by omega),if_pos hkj]
 rw[if_neg (show ¬k+1<=j by omega),if_neg hkj]
theorem Owns.insNil {w:World}{base:Nat}{l1 l2:List OR}(h:Owns w base (l1++l2))(e:TypeId)(sz:Nat):Owns w base (l1++⟨e,sz,.slice none 0 0,0,[]⟩::l2):=by
 refine ⟨fun r hr=>?_,?_⟩
 ·simp only[List.mem_append,List.mem_cons] at hr
  rcases hr with hr | rfl | hr
  ·exact h.own r (by simp[hr])
  ·exact World.ownsRow_nil _ _ _ _
  exact h.own r (by simp[hr])
 have:=h.nd
 simpa[List.filterMap_append,List.filterMap_cons,Value.ownBlock] using this
theorem Owns.ins {w w':World}{base:Nat}{l1 l2:List OR}{r:OR}(h:Owns w base (l1++l2))(hg:w.grownBy w' none)(ho:w'.ownsRow base r.e r.sz r.v r.n r.xs)(hb:r.v.ownBlock=some w.heap.size) :
  Owns w' base (l1++r::l2):=Owns.turn (r:=⟨r.e,r.sz,.slice none 0 0,0,[]⟩) (h.insNil r.e r.sz) hg ho (.inr hb)
abbrev rowV (m g:Nat):Value:=.slice (some ⟨g,0,none⟩) (m+1) (m+1)
def tcells (m i:Nat)(rs:List (Nat×List Value)):List Value:=List.replicate i (.slice none 0 0)++rs.map fun r=>rowV m r.1
def trows (m:Nat)(rs:List (Nat×List Value)):List OR:=rs.map fun r=>⟨3,1,rowV m r.1,m+1,r.2⟩
def TB (w:World)(base g0 n m i:Nat)(rs:List (Nat×List Value)):Prop:=Owns w base (⟨79,1,rowV n g0,n+1,tcells m i rs⟩::trows m rs)
section
variable {w w':World} {base g0 n m i:Nat} {rs:List (Nat×List Value)}
theorem TB.drew (h:TB w base g0 n m i rs):TB w.drew base g0 n m i rs:=Owns.drew h
theorem TB.top (h:TB w base g0 n m i rs):w.ownsRow base 79 1 (rowV n g0) (n+1) (tcells m i rs):=h.own _ (List.mem_cons_self ..)
theorem TB.at_ (h:TB w base g0 n m i rs){q:Nat}{r:Nat×List Value}(hq:rs[q]? = some r) :
  w.cell? ⟨g0,i+q,none⟩=some (rowV m r.1)/\w.ownsRow base 3 1 (rowV m r.1) (m+1) r.2:=by
 have hl:=h.top.1
 have hcell:(tcells m i rs)[i+q]? = some (rowV m r.1):=by
  rw[tcells,List.getElem?_append_right (by simp)]
  simp[hq]
 have hlt:i+q<(n+1)*1:=by rw[<-hl];exact (List.getElem?_eq_some_iff.1 hcell).1
 refine ⟨by rw[h.top.cellAt _ hlt];exact hcell,?_⟩
 exact h.own (⟨3,1,rowV m r.1,m+1,r.2⟩:OR) (List.mem_cons_of_mem _ (List.mem_map.2 ⟨r,List.mem_of_getElem? hq,rfl⟩))
theorem aDi {w:World}{base g n c:Nat}{e:TypeId}{xs:List Value}(h:w.ownsRow base e 1 (.slice (some ⟨g,0,none⟩) n c) n xs){j:Nat}{u:Value}(hu:xs[j]? = some u):w.cell? ⟨g,j,none⟩=some u:=by
 have hl:=h.1
 rw[h.cellAt j (by rw[<-hl];exact (List.getElem?_eq_some_iff.1 hu).1),hu]
theorem TB.push (h:TB w base g0 n m (i+1) rs){g:Nat}{xs:List Value}(hg:w.grownBy w' none)(ho:w'.ownsRow base 3 1 (rowV m g) (m+1) xs)(hb:g=w.heap.size) :
  TB (w'.setCell ⟨g0,i,none⟩ (rowV m g)) base g0 n m i ((g,xs)::rs):=by
 have h1:Owns w' base ([⟨79,1,rowV n g0,n+1,tcells m (i+1) rs⟩]++⟨3,1,rowV m g,m+1,xs⟩::trows m rs):=Owns.ins (r:=⟨3,1,rowV m g,m+1,xs⟩) h hg ho (by rw[hb];rfl)
 have h2:=World.ownsRow.stored (h1.own (⟨79,1,rowV n g0,n+1,tcells m (i+1) rs⟩:OR) (by simp)) i (rowV m g)
 refine Owns.turn (l1:=[]) (r:=⟨79,1,rowV n g0,n+1,tcells m (i+1) rs⟩) (r':=⟨79,1,rowV n g0,n+1,tcells m i ((g,xs)::rs)⟩) h1 h2.2 ?_ (.inl rfl)
 have e:(tcells m (i+1) rs).set i (rowV m g)=tcells m i ((g,xs)::rs):=by
  unfold tcells
  rw[List.replicate_succ',List.append_assoc,List.set_append_right _ _ (by simp)]
  simp
 have h3:=h2.1
 simp only at h3
 rw[e] at h3
 exact h3
theorem TB.store {g:Nat}{xs:List Value}(h:TB w base g0 n m i ((g,xs)::rs))(k:Nat)(u:Value):TB (w.setCell ⟨g,k,none⟩ u) base g0 n m i ((g,xs.set k u)::rs):=by
 have h2:=World.ownsRow.stored (h.at_ (q:=0) rfl).2 k u
 exact Owns.turn (l1:=[⟨79,1,rowV n g0,n+1,tcells m i ((g,xs)::rs)⟩]) (r:=⟨3,1,rowV m g,m+1,xs⟩) (r':=⟨3,1,rowV m g,m+1,xs.set k u⟩) h h2.2 h2.1 (.inl rfl)
theorem TB.start (h:w.ownsRow base 79 1 (rowV n g0) (n+1) (List.replicate (n+1) (.slice none 0 0))):TB w base g0 n m (n+1) []:=
 ⟨fun r hr=>by obtain rfl:=List.mem_singleton.1 hr;simpa[tcells] using h,by simp[trows,Value.ownBlock]⟩
theorem TB.same (h:TB w base g0 n m i rs)(hg:w.grownBy w' none):TB w' base g0 n m i rs:=Owns.same h hg
theorem TB.slot (h:TB w base g0 n m (i+1) rs):w.cell? ⟨g0,i,none⟩=some (.slice none 0 0):=
 aDi h.top (by rw[tcells,List.getElem?_append_left (by simp)];simp)
theorem TB.frz (h:TB w base g0 n m i rs)(j:Nat):w.frozen? ⟨g0,j,none⟩=false:=h.top.frozenAt j
theorem TB.frz1 {g:Nat}{xs:List Value}(h:TB w base g0 n m i ((g,xs)::rs))(j:Nat):w.frozen? ⟨g,j,none⟩=false:=(h.at_ (q:=0) rfl).2.frozenAt j
theorem TB.len (h:TB w base g0 n m i rs):i+rs.length=n+1:=by
 have:=h.top.1
 simpa[tcells] using this
end
theorem E79:Elem1 Tryz.prog 161 79 24 (.slice none 0 0):=aPv (aCw (by kernel_rfl)) (by kernel_rfl) rfl
theorem E64:Elem1 Tryz.prog 79 3 8 (.int .i64 0):=aPv (aCw (by kernel_rfl)) (by kernel_rfl) rfl
def RC (a b:List ByteArray)(i:Nat)(rs:List (Nat×List Value)):Prop:=∀q r,rs[q]? = some r->r.2=rowP a b (i+q) 0
def TableIs (a b:List ByteArray)(w:World)(e:Ending) (w':World):Prop:=
 ∃g0 rs,e=.returned (rowV a.length g0)/\TB w' w.heap.size g0 a.length b.length 0 rs/\RC a b 0 rs/\Below w.heap.size w w'
theorem aSi {A B:Option Addr}{n ca m cb:Nat}{a b:List ByteArray}{w:World}(hn:n<=1048576)(hm:m<=1048576)
  (ha:Rd w w.heap.size 1 A n ca (a.map .string)) (hb:Rd w w.heap.size 1 B m cb (b.map .string)) :
  Calls Tryz.prog 116 #[.slice A n ca,.slice B m cb] w (TableIs a b w):=by
 have HA:=hid (show a.length=n by have:=ha.len;simpa using this)
 have HB:=hid (show b.length=m by have:=hb.len;simpa using this)
 have hca:=ha.cap
 have hcb:=hb.cap
 have hA1:=hid (show 24*(n+1)<=281474976710656 by omega)
 have hA2:=hid (show n+1<=maxLen by simp only[maxLen];omega)
 have hB1:=hid (show 8*(m+1)<=281474976710656 by omega)
 have hB2:=hid (show m+1<=maxLen by simp only[maxLen];omega)
 go_enter Tryz.func116,Tryz.ntmps116
 go_wp2_with first
  | (at_make;refine aEr rfl (.tmp 10) (.tmp 10) 161 rfl E79 w.heap.size (n+1) rfl rfl rfl rfl hA1.out hA2.out (Nat.le_refl _) ?_;intro w1 hown1 hgrow1;have HT1:=hid (TB.start (m:=m) hown1);have HG1:=hid ((Below.refl w.heap.size w).grown hgrow1 (Nat.le_refl _) (fun g hg=>by cases hg));clear hown1)
  | (at_make;refine aEr rfl (.tmp 17) (.tmp 17) 79 rfl E64 w.heap.size (m+1) rfl rfl rfl rfl hB1.out hB2.out hgrow1.size ?_;intro w2 hown2 hgrow2;have HT2:=hid (TB.same HT1.out hgrow2);have q0:=HT2.out.slot;have q1:=HT2.out.frz n;have HT3:=hid (TB.push HT1.out hgrow2 hown2 rfl);have HG2:=hid ((HG1.out.grown hgrow2 hgrow1.size (fun g hg=>by cases hg)).setCell (p:=⟨w.heap.size,n,none⟩) (Nat.le_refl _) (rowV m w1.heap.size)))
 have hRC:Hid (RC a b n [(w1.heap.size,List.replicate (m+1) (.int .i64 0))]):=by
  intro q r hq
  match q with
  | 0=>
   cases hq
   show _=rowP a b n 0
   rw[<-HA.out,bCx,HB.out]
  | q+1=>simp at hq
 clear HT1 HT2 q0 q1 hown2 hgrow1 hgrow2 HG1
 generalize (w2.setCell ⟨w.heap.size,n,none⟩ (rowV m w1.heap.size))=w3 at *
 go_loopw[6] (fun i wr=>∃(j:Nat) (rs:List (Nat×List Value)),j<=n/\i=.int .i64 ((j:Int)-1)/\Below w.heap.size w wr/\Hid (TB wr w.heap.size w.heap.size n m j rs)/\Hid (RC a b j rs))
   (fun i _=>(intOf i+1).toNat)
 case atStart=>exact ⟨n,_,Nat.le_refl _,rfl,HG2.out,HT3.out,hRC.out⟩
 clear HT3 HG2 hRC
 obtain ⟨j,rs,hj,rfl,hbw,HT,HC⟩:=hrel
 cases j with
 | zero=>
  have hbz:=hid hbw;clear hbw
  go_wp2
  go_ret
  exact ⟨w.heap.size,rs,by rw[HA.out];rfl,by rw[HA.out,HB.out];exact HT.out,HC.out,hbz.out⟩
 | succ j=>
  have hlen:=HT.out.len
  obtain ⟨⟨g2,xs2⟩,rest,rfl⟩:∃r l,rs=r::l:=by cases rs with
   | nil=>simp at hlen;omega
   | cons r l=>exact ⟨r,l,rfl⟩
  have hx2:=HC.out 0 _ rfl
  simp only[Nat.add_zero] at hx2
  subst hx2
  obtain ⟨ba,oa,x,rfl,hba,hax,hacell⟩:=ha.str (k:=j) (by omega)
  have hwsz:=hbw.size
  have HW:=hid hbw;clear hbw
  go_wp2_with (at_make;refine aEr rfl (.tmp 31) (.tmp 31) 79 rfl E64 w.heap.size (m+1) rfl rfl rfl rfl hB1.out hB2.out hwsz ?_;intro w4 hown4 hgrow4;have HT4:=hid (TB.same HT.out hgrow4);have q0:=HT4.out.slot;have q1:=HT4.out.frz j;have HT5:=hid (TB.push HT.out hgrow4 hown4 rfl);have HG5:=hid ((HW.out.grown hgrow4 hwsz (fun g hg=>by cases hg)).setCell (p:=⟨w.heap.size,j,none⟩) (Nat.le_refl _) (rowV m wr.heap.size)))
  have HR1:Hid (rowP a b j m=List.replicate (m+1) (.int .i64 0)):=by have:=bAg a b j;rw[HB.out] at this;exact this
  rw[<-HR1.out] at HT5
  clear HT4 q0 q1 hown4 hgrow4 HT HW
  have hnew:=hid (Nat.le_refl wr.heap.size)
  generalize w4.setCell ⟨w.heap.size,j,none⟩ (rowV m wr.heap.size)=w5 at *
  generalize wr.heap.size=g1 at *
  go_loopw[7] (fun k wr=>∃(q:Nat),q<=m/\k=.int .i64 ((q:Int)-1)/\Below w.heap.size w wr/\Hid (TB wr w.heap.size w.heap.size n m j ((g1,rowP a b j q)::(g2,rowP a b (j+1) 0)::rest)))
    (fun k _=>(intOf k+1).toNat)
  case atStart=>exact ⟨m,Nat.le_refl _,rfl,HG5.out,HT5.out⟩
  clear HT5 HG5
  obtain ⟨q,hq,rfl,hbw,HT⟩:=hrel
  have HW:=hid hbw;clear hbw
  cases q with
  | zero=>
   go_wp2
   go_roundw
   case rel=>
    refine ⟨j,_,by omega,by go_num,HW.out,HT,?_⟩
    intro q r hqr
    match q with
    | 0=>cases hqr;rfl
    | q+1=>
     have:=HC.out q r hqr
     rw[this,show j+1+q=j+(q+1) from by omega]
   simp[intOf]
  | succ q=>
   rw[show ((q+1:Nat):Int)-1=(q:Int) from by omega]
   obtain ⟨bb,ob,y,rfl,hbb,hby,hbcell⟩:=hb.str (k:=q) (by omega)
   have HX:=hid hax
   have HY:=hid hby;clear hby
   go_wp2
   refine aAd (fun w'=>Below w.heap.size w w') (qs 9) mixed (by kernel_rfl) HW.out.drew ?_
   intro T M Q hT hT' hM hQ
   have m0:M ⟨ba,oa+j,none⟩=some (.string x):=hM _ _ fun w' hw=>(hw.cell (p:=⟨ba,oa+j,none⟩) hba).trans hacell
   have m1:M ⟨bb,ob+q,none⟩=some (.string y):=hM _ _ fun w' hw=>(hw.cell (p:=⟨bb,ob+q,none⟩) hbb).trans hbcell
   clear hM
   simp only[qcmp]
   simp (maxSteps:=9^7) only[↓qpre,aAb,aAf,aAc,m0,m1]
   refine ⟨⟨by omega,by omega⟩,⟨by omega,by omega⟩,hQ _ _ ?_⟩
   clear hQ hT hT' m0 m1
   have hc:=HT.out
   obtain ⟨c1,o1⟩:=hc.at_ (q:=0) rfl
   obtain ⟨c2,o2⟩:=hc.at_ (q:=1) rfl
   have v1:wr.cell? ⟨g1,q+1,none⟩=some (.int .i64 (cel a b j (q+1))):=aDi o1 (aFf (by rw[HB.out];omega) (Nat.le_refl _))
   have v2:wr.cell? ⟨g2,q+1,none⟩=some (.int .i64 (cel a b (j+1) (q+1))):=aDi o2 (aFf (by rw[HB.out];omega) (Nat.zero_le _))
   have v3:wr.cell? ⟨g2,q,none⟩=some (.int .i64 (cel a b (j+1) q)):=aDi o2 (aFf (by rw[HB.out];omega) (Nat.zero_le _))
   have hstep:=aQg HX.out HY.out
   have l1:=aLc a b j (q+1)
   have l2:=aLc a b (j+1) (q+1)
   have l3:=aLc a b (j+1) q
   rw[HA.out] at l1 l2 l3
   have V:=hid (And.intro c1 (And.intro c2 (And.intro v1 (And.intro v2 v3))))
   have HS:=hid hstep
   have HT6:∀u:Int,u=(cel a b j q:Nat)->Hid (TB (wr.setCell ⟨g1,q,none⟩ (.int .i64 u)) w.heap.size w.heap.size n m j ((g1,rowP a b j q)::(g2,rowP a b (j+1) 0)::rest)):=by
    rintro u rfl
    have:=TB.store hc q (.int .i64 (cel a b j q))
    rw[bEs] at this
    exact this
   have hg1:=hid (o1.lt g1 rfl).1
   have hf1:=hid (hc.frz1 q)
   have hs1:Hid ((wr.cell? ⟨g1,q,none⟩).isSome=true):=by
    obtain ⟨_,hh⟩:=List.getElem?_eq_some_iff.1 (aFf (a:=a) (b:=b) (i:=j) (k:=0) (j:=q) (by rw[HB.out];omega) (Nat.zero_le _))
    have e:∃u,(rowP a b j (q+1))[q]? = some u:=⟨_,List.getElem?_eq_getElem (by rw[aWj,HB.out];omega)⟩
    obtain ⟨u,hu⟩:=e
    have:=aDi o1 hu
    unfold Hid
    rw[this];rfl
   clear hc c1 c2 o1 o2 v1 v2 v3 hstep
   have T1:∀z:Nat,((z:Int)+1).toNat=z+1:=fun z=>by omega
   cases hd:decide (x=y)
   ·have hxy:=of_decide_eq_false hd
    rw[if_neg hxy] at HS
    clear hd hxy
    go_wp2
    refine aAs (fun w'=>∀p:Addr,w'.cell? p=wr.cell? p) (qs 23) [23] mixed (by kernel_rfl) (fun p=>rfl) ?_
    intro T M Q Q2 hT hT' hM hQ hQ2
    have m0:M ⟨w.heap.size,j,none⟩=some (rowV m g1):=hM _ _ fun w' hw=>(hw _).trans V.out.1
    have m1:M ⟨w.heap.size,j+1,none⟩=some (rowV m g2):=hM _ _ fun w' hw=>(hw _).trans V.out.2.1
    have m2:M ⟨g1,q+1,none⟩=some (.int .i64 (cel a b j (q+1))):=hM _ _ fun w' hw=>(hw _).trans V.out.2.2.1
    have m3:M ⟨g2,q+1,none⟩=some (.int .i64 (cel a b (j+1) (q+1))):=hM _ _ fun w' hw=>(hw _).trans V.out.2.2.2.1
    have m4:M ⟨g2,q,none⟩=some (.int .i64 (cel a b (j+1) q)):=hM _ _ fun w' hw=>(hw _).trans V.out.2.2.2.2
    clear hM
    simp only[qcmp]
    simp (maxSteps:=9^7) only[↓qpre,aAb,aAf,aAc,m0,m1,m2,m4,rowV,T1]
    refine ⟨⟨by omega,by omega⟩,⟨by omega,by omega⟩,⟨by omega,by omega⟩,⟨by omega,by omega⟩,⟨by omega,by omega⟩,⟨by omega,by omega⟩,⟨by omega,by omega⟩,⟨by omega,by omega⟩,?_⟩
    refine hQ _ _ ?_
    simp only[lates,List.map,qcmp]
    simp (maxSteps:=9^7) only[aAb]
    refine aAy (v:=.int .i64 (max (cel a b (j+1) q:Int) (cel a b j (q+1)))) (b:=g1) (o:=q) (by kernel_rfl) rfl rfl hs1.out hf1.out rfl ⟨trivial,?_⟩
    simp (maxSteps:=9^7) only[aAb]
    refine hQ2 _ _ ?_
    have HT7:=HT6 (max (cel a b (j+1) q:Int) (cel a b j (q+1))) (by have:=HS.out;omega)
    have HW7:=hid (HW.out.setCell (p:=⟨g1,q,none⟩) hg1.out (.int .i64 (max (cel a b (j+1) q:Int) (cel a b j (q+1)))))
    clear hQ hQ2 hT hT' m0 m1 m2 m3 m4 HT6 V HT hs1 hf1 hg1 HS l1 l2 l3
    go_wp2
    go_roundw
    case rel=>exact ⟨q,by omega,by go_num,HW7.out.drew.drew,HT7.out.drew.drew⟩
    simp[intOf]
   have hxy:=of_decide_eq_true hd
   rw[if_pos hxy] at HS
   clear hd hxy
   go_wp2
   refine aAs (fun w'=>∀p:Addr,w'.cell? p=wr.cell? p) (qs 16) [16] mixed (by kernel_rfl) (fun p=>rfl) ?_
   intro T M Q Q2 hT hT' hM hQ hQ2
   have m0:M ⟨w.heap.size,j,none⟩=some (rowV m g1):=hM _ _ fun w' hw=>(hw _).trans V.out.1
   have m1:M ⟨w.heap.size,j+1,none⟩=some (rowV m g2):=hM _ _ fun w' hw=>(hw _).trans V.out.2.1
   have m2:M ⟨g1,q+1,none⟩=some (.int .i64 (cel a b j (q+1))):=hM _ _ fun w' hw=>(hw _).trans V.out.2.2.1
   have m3:M ⟨g2,q+1,none⟩=some (.int .i64 (cel a b (j+1) (q+1))):=hM _ _ fun w' hw=>(hw _).trans V.out.2.2.2.1
   have m4:M ⟨g2,q,none⟩=some (.int .i64 (cel a b (j+1) q)):=hM _ _ fun w' hw=>(hw _).trans V.out.2.2.2.2
   clear hM
   simp only[qcmp]
   simp (maxSteps:=9^7) only[↓qpre,aAb,aAf,aAc,m0,m1,m3,rowV,T1]
   refine ⟨⟨by omega,by omega⟩,⟨by omega,by omega⟩,⟨by omega,by omega⟩,⟨by omega,by omega⟩,⟨by omega,by omega⟩,⟨by omega,by omega⟩,⟨by omega,by omega⟩,?_⟩
   refine hQ _ _ ?_
   simp only[lates,List.map,qcmp]
   simp (maxSteps:=9^7) only[aAb]
   refine aAy (v:=.int .i64 ((cel a b (j+1) (q+1):Int)+1)) (b:=g1) (o:=q) (by kernel_rfl) rfl rfl hs1.out hf1.out rfl ⟨trivial,?_⟩
   simp (maxSteps:=9^7) only[aAb]
   refine hQ2 _ _ ?_
   have HT7:=HT6 ((cel a b (j+1) (q+1):Int)+1) (by have:=HS.out;omega)
   have HW7:=hid (HW.out.setCell (p:=⟨g1,q,none⟩) hg1.out (.int .i64 ((cel a b (j+1) (q+1):Int)+1)))
   clear hQ hQ2 hT hT' m0 m1 m2 m3 m4 HT6 V HT hs1 hf1 hg1 HS l1 l2 l3
   go_wp2
   go_roundw
   case rel=>exact ⟨q,by omega,by go_num,HW7.out.drew.drew,HT7.out.drew.drew⟩
   simp[intOf]
theorem bBg (s:ByteArray)(f i:Nat):ofB ((s.data.toList.drop f).take (i-f))=s.extract f i:=by
 apply aCb
 rw[aLj];simp[ofB]
structure CutL (s:ByteArray) (f i:Nat) (ps:List ByteArray):Prop where
 lines:linesF s=ps++(splitL (s.data.toList.drop f)).map ofB
 none_:10∉(s.data.toList.drop f).take (i-f)
theorem CutL.start (s:ByteArray):CutL s 0 0 []:=⟨rfl,by simp⟩
theorem CutL.skip {s:ByteArray}{f i:Nat}{ps:List ByteArray}(h:CutL s f i ps)(hf:f<=i)(_hi:i<s.size)(hb:s.data.toList[i]?≠some 10):CutL s f (i+1) ps:=by
 refine ⟨h.lines,fun hm=>?_⟩
 rw[show i+1-f=(i-f)+1 by omega,List.take_add_one,List.getElem?_drop,show f+(i-f)=i by omega] at hm
 rcases List.mem_append.1 hm with hm | hm
 ·exact h.none_ hm
 cases hx:s.data.toList[i]? with
 | none=>rw[hx] at hm;cases hm
 | some x=>
  rw[hx] at hm hb
  simp only[Option.toList_some,List.mem_singleton] at hm
  exact hb (by rw[hm])
theorem CutL.line {s:ByteArray}{f i:Nat}{ps:List ByteArray}(h:CutL s f i ps)(hf:f<=i)(hi:i<s.size)(hb:s.data.toList[i]? = some 10):CutL s (i+1) (i+1) (ps++[s.extract f (i+1)]):=by
 refine ⟨?_,by simp⟩
 have hl:i<s.data.toList.length:=by rw[Array.length_toList];exact hi
 have e1:s.data.toList.drop f=(s.data.toList.drop f).take (i-f)++10::s.data.toList.drop (i+1):=by
  have e2:(s.data.toList.drop f).drop (i-f)=10::s.data.toList.drop (i+1):=by
   rw[List.drop_drop,show f+(i-f)=i by omega,List.drop_eq_getElem_cons hl]
   congr 1
   rw[List.getElem?_eq_getElem hl] at hb
   injection hb
  rw[<-e2,List.take_append_drop]
 rw[h.lines,e1,aJx h.none_,List.map_cons,List.append_assoc,List.singleton_append]
 congr 2
 rw[<-bBg,show i+1-f=(i-f)+1 by omega,List.take_add_one,List.getElem?_drop,show f+(i-f)=i by omega,hb]
 rfl
theorem CutL.done {s:ByteArray}{f:Nat}{ps:List ByteArray}(h:CutL s f s.size ps)(hf:f<=s.size):linesF s=ps++if f<s.size then [s.extract f s.size] else []:=by
 have e:(s.data.toList.drop f).take (s.size-f)=s.data.toList.drop f:=List.take_of_length_le (by rw[List.length_drop,Array.length_toList];exact Nat.le_refl _)
 have hn:=h.none_
 rw[e] at hn
 rw[h.lines,aHk hn]
 congr 1
 by_cases hlt:f<s.size
 ·rw[if_pos hlt,if_neg]
  ·rw[<-bBg,e];rfl
  intro e2
  have:=congrArg List.length e2
  rw[List.length_drop,Array.length_toList] at this
  have h3:s.data.size=s.size:=rfl
  simp at this;omega
 rw[if_neg hlt,if_pos]
 ·rfl
 exact List.drop_eq_nil_of_le (by rw[Array.length_toList];show s.size<=f;omega)
theorem aEi {s:ByteArray}{w:World}(hs:s.size<=1000000):Calls Tryz.prog 69 #[.string s] w (LinesIs (linesF s) w):=by
 have hl:s.data.toList.length=s.size:=by rw[Array.length_toList];rfl
 go_enter Tryz.func69,Tryz.ntmps69
 go_wp2
 go_loopw[3,4,5] (fun lv fv iv wr=>∃(f i:Nat) (ps:List ByteArray),i<=s.size/\f<=i/\fv=.int .i64 f/\iv=.int .i64 i/\Hid (CutL s f i ps)/\ps.length<=i/\
   Below w.heap.size w wr/\wr.ownsRow w.heap.size 9 1 lv ps.length (ps.map .string)) (fun _ _ iv _=>s.size-(intOf iv).toNat)
 case atStart=>exact ⟨0,0,[],Nat.zero_le _,Nat.le_refl _,rfl,rfl,hid (CutL.start _),Nat.le_refl _,Below.refl _ _,World.ownsRow_nil _ _ _ _⟩
 obtain ⟨f,i,ps,hi,hfi,rfl,rfl,hc,hpl,hb,ho⟩:=hrel
 by_cases hlt:i<s.size
 ·have hx:s.data.toList[i]? = some s[i]:=by
   have:=List.getElem?_eq_getElem (l:=s.data.toList) (i:=i) (by omega)
   rw[this];rfl
  by_cases h10:s[i]=10
  ·have h10i:((s[i].toNat:Int) == 10)=true:=by rw[h10];rfl
   rw[h10] at hx
   have HC:=hid (hc.out.line hfi hlt hx)
   have hb1:=hb.alloc hb.size (.cells #[.string (s.extract f (i+1))] 9)
   have ho1:=ho.alloc (.cells #[.string (s.extract f (i+1))] 9)
   clear hx h10
   go_wp2_with (at_builtin;refine aAm rfl (.tmp 16) (.tmp 22) 103 rfl aCo rfl rfl ho1 (aPz wr (s.extract f (i+1))) (aAq _) (by unfold maxLen;omega) (by omega) hb1.size ?_;intro v7 w7 ho7 hg7 hv7)
   go_roundw
   case rel=>
    refine ⟨i+1,i+1,ps++[s.extract f (i+1)],by omega,by omega,by go_num,by go_num,HC,by simp;omega,hb1.grown hg7 hb1.size (fun g hg=>(ho1.lt g hg).1),?_⟩
    rw[List.length_append,List.map_append];exact ho7
   simp[intOf];omega
  have h10i:((s[i].toNat:Int) == 10)=false:=by
   refine beq_eq_false_iff_ne.2 fun e=>h10 (UInt8.toNat.inj ?_)
   show s[i].toNat=10
   omega
  have HC:=hid (hc.out.skip hfi hlt (by rw[hx];intro e;injection e with e;exact h10 e))
  clear hx h10
  go_wp2
  go_roundw
  case rel=>exact ⟨f,i+1,ps,by omega,by omega,rfl,by go_num,HC,by omega,hb,ho⟩
  simp[intOf];omega
 obtain rfl:i=s.size:=by omega
 have HC:=hid (hc.out.done hfi)
 by_cases hf:f<s.size
 ·rw[if_pos hf] at HC
  have hb1:=hb.alloc hb.size (.cells #[.string (s.extract f s.size)] 9)
  have ho1:=ho.alloc (.cells #[.string (s.extract f s.size)] 9)
  go_wp2_with (at_builtin;refine aAm rfl (.tmp 30) (.tmp 34) 103 rfl aCo rfl rfl ho1 (aPz wr (s.extract f s.size)) (aAq _) (by unfold maxLen;omega) (by omega) hb1.size ?_;intro v7 w7 ho7 hg7 hv7)
  have hb7:=hb1.grown hg7 hb1.size (fun g hg=>(ho1.lt g hg).1)
  obtain ⟨A7,c7,rfl,hc7⟩:=aAg ho7
  go_ret
  refine ⟨A7,c7,by rw[HC.out,List.length_append];rfl,?_,hb7⟩
  have:=Rd.of_own ho7 hc7
  rw[HC.out,List.map_append,List.length_append]
  exact this
 rw[if_neg hf,List.append_nil] at HC
 obtain ⟨A7,c7,rfl,hc7⟩:=aAg ho
 have HRD:=hid (Rd.of_own ho hc7)
 have HB:=hid hb
 clear ho hb
 go_wp2
 go_ret
 exact ⟨A7,c7,by rw[HC.out];rfl,by rw[HC.out];exact HRD.out,HB.out⟩
theorem aTu {A B:Option Addr}{n ca m cb:Nat}{a b:List ByteArray}{w:World}(hn:n<=1048576)(hm:m<=1048576)
  (ha:Rd w w.heap.size 1 A n ca (a.map .string)) (hb:Rd w w.heap.size 1 B m cb (b.map .string)) :
  Calls Tryz.prog 75 #[.slice A n ca,.slice B m cb] w fun e w'=>e=.returned (.int .i64 (lcs a b:Nat))/\Below w.heap.size w w':=by
 have K:=aSi hn hm ha hb
 have HA:=hid (show a.length=n by have:=ha.len;simpa using this)
 have HB:=hid (show b.length=m by have:=hb.len;simpa using this)
 clear ha hb
 go_enter Tryz.func75,Tryz.ntmps75
 go_wp2_with fail
 refine K.mono ?_
 rintro e w1 ⟨g0,rs,rfl,ht,hc,hb1⟩
 have hlen:=ht.len
 obtain ⟨⟨g1,xs⟩,rest,rfl⟩:∃r l,rs=r::l:=by
  cases rs with
  | nil=>simp at hlen
  | cons r l=>exact ⟨r,l,rfl⟩
 have hx:=hc 0 _ rfl
 simp only[Nat.add_zero] at hx
 subst hx
 obtain ⟨t1,o1⟩:=ht.at_ (q:=0) rfl
 have v1:w1.cell? ⟨g1,0,none⟩=some (.int .i64 (cel a b 0 0)):=aDi o1 (aFf (Nat.zero_le _) (Nat.le_refl _))
 have HE:Hid (cel a b 0 0=lcs a b):=hid (by unfold cel;rfl)
 have HBB:=hid hb1
 obtain ⟨q1,_⟩:=ht.at_ (q:=0) rfl
 simp only[Nat.zero_add] at q1
 have HT:=hid ht
 have HC:=hid hc
 clear ht hc hb1 t1 o1 K hlen
 go_wp2
 go_ret
 exact ⟨by rw[HE.out];rfl,HBB.out⟩
end Go.Proofs.YtcemkikgaeghjaaGreatDoor
