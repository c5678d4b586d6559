/- Texts of the walks, together: Walk: MoveApart's way to put one more commit behind the others. Walk: the law MoveRefuses. Walk: the law MoveApart. The world in which the tables of unicode/utf8 lie as the program lays them. Arguments opened by their types' shapes: one law for each kind of type. Files among a law's arguments: opened. Four arguments of a law: opened. -/
import Derived.Test.YtohblmepajhpaaaGreatDoorRows
import Derived.Test.YtohblmepajhpaaaGreatDoorCards
import Derived.Test.YtohblmepajhpaaaGreatDoorTie
import Derived.ProofKit
import Derived.OpenShut
import Derived.Deep.DeepHandedRow
import Derived.SevenTiedAt
import Derived.SizedLaws
import Derived.SliceStrings
import Derived.ChangeArms
import Derived.ChangeSame
import Derived.ChangeOld
import Derived.ChangeSlices
import Derived.Test.YtohblmepajhpaaaGreatDoorG01
import Derived.Test.YtohblmepajhpaaaGreatDoorG02
import Derived.Test.YtohblmepajhpaaaGreatDoorG03
import Derived.Test.YtohblmepajhpaaaGreatDoorG23
set_option maxHeartbeats 8000000
set_option maxRecDepth 100000
open Go.Lib (hid)
namespace Go.Proofs.YtohblmepajhpaaaGreatDoor
open Go.RowKit
structure Grow (w0 w:World) (hb:Nat) (v:Value) (nl:List FLV):Prop where
 bx:w.heap[hb]? = some (.cells #[v] 22 (0,0))
 row:w.ownsRow w0.heap.size 40 3 v nl.length (nl.flatMap FLV.cells)
 lo:w0.heap.size<=hb
 bel:Below w0.heap.size w0 w
 pf:∀f∈nl,FlOk w (hb::obs v) f
 sm:∀f∈nl,f.files.length<=nl.length
theorem aJp {w:World}{b:Nat}{v:Value}{T:TypeId}(h:w.heap[b]? = some (.cells #[v] T (0,0))):w.cell? ⟨b,0,none⟩=some v/\w.frozen? ⟨b,0,none⟩=false:=
 ⟨(Lib.cell_of_heap h 0).trans rfl,aAl h⟩
section
variable {w0 w w':World} {hb:Nat} {v:Value} {nl:List FLV}
theorem Grow.below (h:Grow w0 w hb v nl)(hw:Below w.heap.size w w'):Grow w0 w' hb v nl:=
 ⟨(hw.block _ (aAa h.bx)).trans h.bx,aAg h.row hw,h.lo,h.bel.trans (hw.mono h.bel.size),fun f hf=>(h.pf f hf).keep (HStay.of_below hw).keeps,h.sm⟩
theorem Grow.push (h:Grow w0 w hb v nl){f:FLV} {v':Value}(hf:FlOk w (hb::obs v) f)(hl:f.files.length<=nl.length+1)(hg:w.grownBy w' v.ownBlock)(hv:v'.ownBlock=v.ownBlock\/v'.ownBlock=some w.heap.size)
  (ho:w'.ownsRow w0.heap.size 40 3 v' (nl.length+1) (nl.flatMap FLV.cells++[f].flatMap FLV.cells)) :
  w'.heap[hb]? = some (.cells #[v] 22 (0,0))/\Grow w0 (w'.setCell ⟨hb,0,none⟩ v') hb v' (nl++[f]):=by
 have hs':=(hg.block hb (aAa h.bx) (fun e=>aBe h.row h.bx (by decide) e.symm)).trans h.bx
 have hst1:HStay (w.heap.size::hb::obs v) w w':=HStay.grown hg fun g e=>List.mem_cons_of_mem _ (List.mem_cons_of_mem _ (aDy e))
 have hst3:HStay (hb::obs v') w' (w'.setCell ⟨hb,0,none⟩ v'):=HStay.grown (aAr _ _ _ _) fun g e=>by injection e with e;rw[e];exact List.mem_cons_self ..
 have hX:∀g∈hb::obs v',g∈w.heap.size::hb::obs v:=fun g hg=>by
  rcases List.mem_cons.1 hg with e | e
  ·rw[e];exact List.mem_cons_of_mem _ (List.mem_cons_self ..)
  have e:=aEu e
  rcases hv with h1 | h1
  ·exact List.mem_cons_of_mem _ (List.mem_cons_of_mem _ (aDy (h1▸e)))
  rw[h1] at e;injection e with e;rw[<-e];exact List.mem_cons_self ..
 have hY:∀b∈w.heap.size::hb::obs v,b∈hb::obs v\/w.heap.size<=b:=fun b hb=>by
  rcases List.mem_cons.1 hb with e | e
  ·exact .inr (Nat.le_of_eq e.symm)
  exact .inl e
 have hF:∀x,FlOk w (hb::obs v) x->FlOk (w'.setCell ⟨hb,0,none⟩ v') (hb::obs v') x:=fun x hx=>
  (((hx.less hY).keep hst1.keeps).less (Y:=hb::obs v') fun b hb=>.inl (hX b hb)).keep hst3.keeps
 refine ⟨hs',⟨?_,?_,h.lo,(h.bel.grown hg h.bel.size (fun g hg=>(h.row.lt g hg).1)).setCell h.lo _,fun x hx=>?_,fun x hx=>?_⟩⟩
 ·have:=heap_setCell_same w' hb 0 _ _ v' hs'
  simpa using this
 ·refine ownsRow_setCell_other ?_ (aBe ho hs' (by decide)) _
  rw[List.length_append,List.flatMap_append];exact ho
 ·rcases List.mem_append.1 hx with hx | hx
  ·exact hF x (h.pf x hx)
  rw[List.mem_singleton.1 hx];exact hF f hf
 rw[List.length_append]
 rcases List.mem_append.1 hx with hx | hx
 ·exact Nat.le_trans (h.sm x hx) (Nat.le_add_right _ _)
 rw[List.mem_singleton.1 hx];exact hl
theorem Grow.rdFl (h:Grow w0 w hb v nl):∃A c,v=.slice A nl.length c/\RdFl w w.heap.size A nl.length c nl:=by
 obtain ⟨A,c,e,hc⟩:=aAe h.row
 have h1:=h.row
 rw[e] at h1
 exact ⟨A,c,e,Rd.of_own h1 hc,rfl,fun f hf=>⟨(h.pf f hf).files.1,(h.pf f hf).few,(h.pf f hf).par,(h.pf f hf).msg⟩⟩
end
theorem bAz (p t:ByteArray)(w:World):(Instr.build 48 #[(0,.string p),(2,.string t)]).run Tryz.prog w=.ok (.agg #[.string p,.bool false,.string t]) w:=by
 go_simp
def GrownIs (w0:World)(hb:Nat)(l:List FL)(e:Ending) (w':World):Prop:=e=.returned (.tuple #[])/\∃v nl,nl.map FLV.pl=l/\Grow w0 w' hb v nl
theorem aJc {w0 w:World}{hb p:Nat}{v:Value}{s:ByteArray}{nl:List FLV}(h:Grow w0 w hb v nl)(hp:p<nl.length)(hn:nl.length<=20)(hs:s.size<=100) :
  Calls Tryz.prog 22 #[.int .i64 (p:Int),.string s,.pointer (some ⟨hb,0,none⟩)] w (GrownIs w0 hb (growF (nl.map FLV.pl) p s)):=by
 obtain ⟨A,c,rfl,hr⟩:=h.rdFl
 obtain ⟨b0,o0,f,eA,hbb,hx,hf,k0,k1,k2⟩:=hr.get hp
 subst eA
 have HG:=hid h
 have HF:=hid (h.pf f hf)
 have HSM:=hid (h.sm f hf)
 have HGR:=hid (show growF (nl.map FLV.pl) p s=nl.map FLV.pl++[⟨(p:Int),s,(putF f.files ⟨s,false,s++⟨#[10]⟩⟩).1⟩] by
  unfold growF filesAt
  rw[if_neg (by omega),Int.toNat_natCast,List.getElem?_map,hx];rfl)
 have g0:w.cell? ⟨hb,0,none⟩=some (.slice (some ⟨b0,o0,none⟩) nl.length c):=by rw[Lib.cell_of_heap h.bx];rfl
 have hF1:=HF.out.files.1
 have hfl:f.files.length<=20:=Nat.le_trans HSM.out hn
 have q1:=bAz
 have q2:=aJz
 have HX:=hid hx
 clear h hr k0 k1 hx hf
 go_enter Tryz.func22,Tryz.ntmps22
 go_wp2_with (at_builtin;refine aAp rfl (.tmp 8) (.tmp 13) 29 rfl aCg rfl rfl (World.ownsRow_nil w w.heap.size _ _) hF1.row (aBh _) (by unfold maxLen;omega) (by omega) (Nat.le_refl _) ?_;intro v7 w7 ho7 hg7 hv7)
 rw[Nat.zero_add,List.nil_append] at ho7
 have hb7:Below w.heap.size w w7:=(Below.refl _ _).grown hg7 (Nat.le_refl _) (fun g hg=>by cases hg)
 obtain ⟨A7,c7,rfl,hc7⟩:=aAe ho7
 have hr7:RdF w7 w7.heap.size A7 f.files.length c7 f.files:=⟨Rd.of_own ho7 hc7,rfl,hF1.fits⟩
 have KP:=bBk (w:=w7) (f:=⟨s,false,s++⟨#[10]⟩⟩) (by omega) hr7 ⟨by show s.size<=_;omega,by show (s++⟨#[10]⟩:ByteArray).size<=_;rw[ByteArray.size_append];show s.size+1<=_;omega⟩
 refine KP.mono ?_
 rintro e u1 ⟨A1,c1,rfl,r1,hb1,hN1⟩
 have HP:=hid (bBg f.files ⟨s,false,s++⟨#[10]⟩⟩)
 generalize putF f.files ⟨s,false,s++⟨#[10]⟩⟩=R at *
 obtain ⟨fs,er⟩:=R
 dsimp only at HGR HP r1 ⊢
 have HU:=hid (hb7.trans (hb1.mono hb7.size))
 have HGU:=hid (HG.out.below HU.out)
 have HN:=hid (show ∀a,A1=some a->w.heap.size<=a.block from fun a e=>Nat.le_trans hb7.size (hN1 _ _ _ e))
 have HR1:=hid r1
 have HLT:=hid (show ∀g∈hb::obs (.slice (some ⟨b0,o0,none⟩) nl.length c),g<w.heap.size from fun g hg=>by
  rcases List.mem_cons.1 hg with e | e
  ·rw[e];exact aAa HG.out.bx
  exact (HG.out.row.lt g (aEu e)).2)
 have HW:=hid HG.out.bel
 clear KP ho7 hg7 hv7 hb7 hr7 hc7 hb1 hN1 r1 g0 HG HF hF1 k2 q1
 have g0:u1.cell? ⟨hb,0,none⟩=some (.slice (some ⟨b0,o0,none⟩) nl.length c):=by rw[Lib.cell_of_heap HGU.out.bx];rfl
 have hba:Below u1.heap.size u1 (u1.alloc (.cells #[.int .i64 (p:Int),.string s,.slice A1 fs.length c1] 40)):=(Below.refl _ _).alloc (Nat.le_refl _) _
 have HGA:=hid (HGU.out.below hba)
 have HFN:=hid (show FlOk (u1.alloc (.cells #[.int .i64 (p:Int),.string s,.slice A1 fs.length c1] 40)) (hb::obs (.slice (some ⟨b0,o0,none⟩) nl.length c)) ⟨p,s,A1,c1,fs⟩ from
  ⟨⟨HR1.out.to hba hba.size,fun a e h0 hm=>by have h1:=HN.out a e;have h2:=HLT.out _ hm;omega⟩,by have:=HP.out;show fs.length<=_;omega,(show I64 (p:Int) by unfold I64;omega),by show s.size<=_;omega⟩)
 have HSL:=hid (show fs.length<=nl.length+1 from Nat.le_trans HP.out (Nat.succ_le_succ HSM.out))
 go_wp2_with (at_builtin;refine aAp rfl (.tmp 24) (.tmp 29) 22 rfl aNe (base:=w0.heap.size) (n:=nl.length) rfl rfl HGA.out.row (aUo u1 ⟨p,s,A1,c1,fs⟩) (aGo [⟨p,s,A1,c1,fs⟩]) (by unfold maxLen;omega) (by omega) HGA.out.bel.size ?_;intro v9 w9 ho9 hg9 hv9;obtain ⟨A9,c9,e9,hc9⟩:=aAe ho9;subst e9;obtain ⟨hs9,HG9⟩:=HGA.out.push HFN.out HSL.out hg9 hv9 ho9;obtain ⟨k9,fr9⟩:=aJp hs9;have HZ:=hid HG9;clear HG9 ho9 hg9 hv9 hs9 hc9)
 refine bodyPost_end (results_none rfl _ _ _) rfl ?_
 exact ⟨rfl,_,_,by rw[List.map_append,HGR.out];rfl,HZ.out⟩
def RebIs (k:Int)(w:World)(e:Ending) (w':World):Prop:=
 Below w.heap.size w w'/\∃(A1 A2 A3 A4:Option Addr) (n1 c1 n2 c2 n3 c3 n4 c4:Nat) (x:Int),e=.returned (.tuple #[.agg #[.slice A1 n1 c1,.slice A2 n2 c2,.int .i64 x,.slice A3 n3 c3,.slice A4 n4 c4],.int .i64 k])
theorem aXc (p:Int)(m:ByteArray)(w:World):(Instr.build 40 #[(0,.int .i64 p),(1,.string m)]).run Tryz.prog w=.ok (.agg #[.int .i64 p,.string m,.slice none 0 0]) w:=by
 go_simp
theorem aTv {v:Nat}(h:v<10):(dec v).size<=1:=by rw[aLo h];exact Nat.le_refl 1
theorem bAu {v:Int}(h0:0<=v)(h1:v<100):wrap64 v=v:=by
 have:wrap64 v=(v+9223372036854775808) % 18446744073709551616-9223372036854775808:=by
  unfold wrap64
  try simp[]
  try (split<;>omega)
 rw[this];omega
theorem aZn (t:Int):0<=IntKind.u64.wrap t:=by rw[IntKind.wrap_u64];omega
theorem five (t:Int):∃k:Nat,1<=k/\k<=5/\Hid (wrap64 (1+wrap64 ((IntKind.u64.wrap t).tmod 5))=(k:Int)):=by
 rw[Int.tmod_eq_emod_of_nonneg (aZn t)]
 have h2:0<=IntKind.u64.wrap t % 5:=Int.emod_nonneg _ (by omega)
 have h3:IntKind.u64.wrap t % 5<5:=Int.emod_lt_of_pos _ (by omega)
 generalize IntKind.u64.wrap t % 5=v at *
 refine ⟨(1+v).toNat,by omega,by omega,?_⟩
 refine hid ?_
 rw[bAu h2 (by omega),bAu (by omega) (by omega)]
 omega
theorem bDx (t:Int){k:Nat}(h1:1<=k)(h5:k<=5):∃a:Nat,a<k/\Hid (wrap64 ((IntKind.u64.wrap t).tmod (IntKind.u64.wrap (k:Int)))=(a:Int)):=by
 have e:IntKind.u64.wrap (k:Int)=(k:Int):=aXy (N:=k) (by omega)
 rw[e,Int.tmod_eq_emod_of_nonneg (aZn t)]
 have h2:0<=IntKind.u64.wrap t % (k:Int):=Int.emod_nonneg _ (by omega)
 have h3:IntKind.u64.wrap t % (k:Int)<(k:Int):=Int.emod_lt_of_pos _ (by omega)
 generalize IntKind.u64.wrap t % (k:Int)=v at *
 refine ⟨v.toNat,by omega,hid ?_⟩
 rw[bAu h2 (by omega)]
 omega
def rootV:FLV:=⟨-1,⟨#[114]⟩,none,0,[]⟩
def rootW (w:World):World:=(w.alloc (.cells #[.int .i64 (-1),.string ⟨#[114]⟩,.slice none 0 0] 40)).alloc (.cells #[.slice (some ⟨w.heap.size,0,none⟩) 1 1] 22)
theorem bAr (w:World):Grow w (rootW w) (w.heap.size+1) (.slice (some ⟨w.heap.size,0,none⟩) 1 1) [rootV]:=by
 have e:(w.alloc (.cells #[.int .i64 (-1),.string ⟨#[114]⟩,.slice none 0 0] 40)).heap.size=w.heap.size+1:=by simp
 have h1:Below w.heap.size w (w.alloc (.cells #[.int .i64 (-1),.string ⟨#[114]⟩,.slice none 0 0] 40)):=(Below.refl _ _).alloc (Nat.le_refl _) _
 refine ⟨by rw[<-e];exact heap_alloc_new _ _,(World.ownsRow_lit w #[.int .i64 (-1),.string ⟨#[114]⟩,.slice none 0 0] 1 (Nat.le_refl _) (by unfold maxLen;omega) rfl).alloc _,Nat.le_succ _,h1.alloc h1.size _,fun f hf=>?_,fun f hf=>?_⟩
 ·rw[List.mem_singleton.1 hf]
  exact ⟨⟨RdF.none_ _ _,fun a h=>by cases h⟩,Nat.zero_le _,(show I64 (-1) by unfold I64;omega),(show (1:Nat)<=140737488351232 by decide)⟩
 rw[List.mem_singleton.1 hf];exact Nat.zero_le _
theorem aOd {w:World}(hm:Lm w)(n0 k0 a0:Int) :
  Calls Tryz.prog 6 #[.int .i64 n0,.int .i64 k0,.int .i64 a0] w (BoolBelow true w):=by
 have q1:=aXc
 obtain ⟨n,n1,n5,en⟩:=five n0
 obtain ⟨k,k1,k5,ek⟩:=five k0
 obtain ⟨a,an,ea⟩:=bDx a0 n1 n5
 go_enter Tryz.func6,Tryz.ntmps6
 go_wp2_with fail
 ·rename_i hz
  rw[en.out,aXy (by omega)] at hz
  omega
 simp only[en.out,ek.out,ea.out]
 have HG0:=hid (bAr w)
 unfold rootW at HG0
 obtain ⟨V,eV⟩:∃V,V=(w.alloc (.cells #[.int .i64 (-1),.string ⟨#[114]⟩,.slice none 0 0] 40)).alloc (.cells #[.slice (some ⟨w.heap.size,0,none⟩) 1 1] 22):=⟨_,rfl⟩
 obtain ⟨hb,ehb⟩:∃hb,hb=w.heap.size+1:=⟨_,rfl⟩
 rw[<-eV,<-ehb] at HG0
 rw[show (⟨w.heap.size+1,0,none⟩:Addr)=⟨hb,0,none⟩ by rw[ehb],<-eV]
 clear eV ehb
 have HM:=hid hm
 clear hm en ek ea q1
 go_loopw[9] (fun iv wr=>∃(i:Nat) (v:Value) (nl:List FLV),i<=n/\iv=.int .i64 i/\Hid (nl.map FLV.pl=lineF 97 rootL i)/\nl.length=1+i/\Hid (Grow w wr hb v nl)) (fun i _=>n-(intOf i).toNat)
 case atStart=>exact ⟨0,_,[rootV],Nat.zero_le _,rfl,hid rfl,rfl,HG0⟩
 obtain ⟨i,v,nl,hi,rfl,hj,hl,hg⟩:=hrel
 obtain ⟨A,c,rfl,hrf⟩:=hg.out.rdFl
 by_cases hlt:i<n
 ·have g0:wr.cell? ⟨hb,0,none⟩=some (.slice A nl.length c):=(aJp hg.out.bx).1
  have hds:=aTv (v:=i) (by omega)
  have HNS:=hid (show (⟨#[97]⟩++dec i:ByteArray).size<=100 by rw[ByteArray.size_append];show 1+_<=_;omega)
  have KD:=aNu 1 i (by omega) (Nat.le_refl _) (by omega) wr
  clear hrf
  by_cases h0:0<i
  case' pos=>have HU:=hid (show upAt (lineF 97 rootL i) i=nl.length-1 by rw[upAt,if_pos h0,<-hj.out,List.length_map])
  case' neg=>have HU:=hid (show upAt (lineF 97 rootL i) i=0 by rw[upAt,if_neg h0])
  all_goals
   go_wp2_with fail
   refine KD.mono ?_
   rintro e w1 ⟨rfl,hb1⟩
   have HG1:=hid (hg.out.below hb1)
   clear g0 hb1 KD
   go_wp2_with fail
   first
    | (rw[show (1+(i:Int)-1)=((nl.length-1:Nat):Int) by omega];refine (aJc HG1.out (p:=nl.length-1) (by omega) (by omega) HNS.out).mono ?_)
    | refine (aJc HG1.out (p:=0) (by omega) (by omega) HNS.out).mono ?_
   rintro e w2 ⟨rfl,v2,nl2,e2,hg2⟩
   have HJ2:=hid (show nl2.map FLV.pl=lineF 97 rootL (i+1) by rw[e2,lineF,HU.out,hj.out];rfl)
   have HL2:=hid (show nl2.length=1+(i+1) by have h:=congrArg List.length HJ2.out;rw[aLn,List.length_map] at h;rw[h];rfl)
   have HG2:=hid hg2
   clear hg2 HG1 HNS HU e2 hj hl hg
   go_wp2
   go_roundw
   case rel=>exact ⟨i+1,v2,nl2,by omega,by go_num,HJ2,HL2.out,HG2⟩
   simp[intOf];omega
 have hin:i=n:=by omega
 subst hin
 have HGA:=hid hg.out
 have HJA:=hid hj.out
 have HLA:=hid hl
 obtain ⟨wa,ewa⟩:∃u,u=wr:=⟨_,rfl⟩
 rw[<-ewa] at HGA ⊢
 clear ewa hg hj hl hrf hlt hi HG0
 go_wp2
 go_loopw[11] (fun iv wr=>∃(j:Nat) (v:Value) (nl:List FLV),j<=k/\iv=.int .i64 j/\Hid (nl.map FLV.pl=lineF 98 (lineF 97 rootL i) j)/\nl.length=1+i+j/\Hid (Grow w wr hb v nl)) (fun j _=>k-(intOf j).toNat)
 case atStart=>exact ⟨0,_,nl,Nat.zero_le _,rfl,HJA,HLA.out,HGA⟩
 obtain ⟨j,v,nl,hi,rfl,hj,hl,hg⟩:=hrel
 obtain ⟨A,c,rfl,hrf⟩:=hg.out.rdFl
 by_cases hlt:j<k
 ·have g0:wr.cell? ⟨hb,0,none⟩=some (.slice A nl.length c):=(aJp hg.out.bx).1
  have hds:=aTv (v:=j) (by omega)
  have HNS:=hid (show (⟨#[98]⟩++dec j:ByteArray).size<=100 by rw[ByteArray.size_append];show 1+_<=_;omega)
  have KD:=aNu 1 j (by omega) (Nat.le_refl _) (by omega) wr
  clear hrf
  by_cases h0:0<j
  case' pos=>have HU:=hid (show upAt (lineF 98 (lineF 97 rootL i) j) j=nl.length-1 by rw[upAt,if_pos h0,<-hj.out,List.length_map])
  case' neg=>have HU:=hid (show upAt (lineF 98 (lineF 97 rootL i) j) j=0 by rw[upAt,if_neg h0])
  all_goals
   go_wp2_with fail
   refine KD.mono ?_
   rintro e w1 ⟨rfl,hb1⟩
   have HG1:=hid (hg.out.below hb1)
   clear g0 hb1 KD
   go_wp2_with fail
   first
    | (rw[show (1+(i:Int)+(j:Int)-1)=((nl.length-1:Nat):Int) by omega];refine (aJc HG1.out (p:=nl.length-1) (by omega) (by omega) HNS.out).mono ?_)
    | refine (aJc HG1.out (p:=0) (by omega) (by omega) HNS.out).mono ?_
   rintro e w2 ⟨rfl,v2,nl2,e2,hg2⟩
   have HJ2:=hid (show nl2.map FLV.pl=lineF 98 (lineF 97 rootL i) (j+1) by rw[e2,lineF,HU.out,hj.out];rfl)
   have HL2:=hid (show nl2.length=1+i+(j+1) by have h:=congrArg List.length HJ2.out;rw[aLn,aLn,List.length_map] at h;rw[h];rfl)
   have HG2:=hid hg2
   clear hg2 HG1 HNS HU e2 hj hl hg
   go_wp2
   go_roundw
   case rel=>exact ⟨j+1,v2,nl2,by omega,by go_num,HJ2,HL2.out,HG2⟩
   simp[intOf];omega
 have hjk:j=k:=by omega
 subst hjk
 have HT:=hid (show nl.map FLV.pl=twoF i j from hj.out)
 have HGR:=hid hg.out
 have HRF:=hid hrf
 have HTL:=hid (show (twoF i j).length-1=i+j by rw[<-HT.out,List.length_map,hl];omega)
 obtain ⟨r,q,er,hap⟩:=bCq (n:=i) (k:=j) (a:=a) ⟨n1,n5⟩ ⟨k1,k5⟩ an
 have HAP:=hid hap
 have er':rebaseF (twoF i j) [] (1+(a:Int)) ((nl.length:Int)-1) []=(⟨r,q,-1,[],[]⟩,0):=by
  rw[show (1+(a:Int))=((1+a:Nat):Int) by omega,show ((nl.length:Int)-1)=(((twoF i j).length-1:Nat):Int) by rw[HTL.out];omega]
  exact er
 have KR:=aMi (w:=wr) (ms:=[]) (sl:=[]) (AK:=none) (SA:=none) (sn:=0) (ck:=0) (sc:=0) (source:=1+(a:Int)) (dest:=(nl.length:Int)-1) (HM.out.to HGR.out.bel) (by omega) (Nat.zero_le _) (Nat.zero_le _) hrf (RdM.none_ _ _) (RdS.none_ _ _)
 rw[HT.out,show ([]:List STV).map STV.pl=[] from rfl,er'] at KR
 have hl1:1<=nl.length:=by omega
 have hl2:nl.length<=20:=by omega
 have g0:wr.cell? ⟨hb,0,none⟩=some (.slice A nl.length c):=(aJp hg.out.bx).1
 have HL:=hid hl
 clear hap er er' hj hl hg hrf hlt hi HGA HJA HLA
 go_wp2_with fail
 refine KR.mono ?_
 rintro e w1 ⟨hbm,AN,AK,AF,AC,cn,ck,cf,cc,ml,kl,em,_,rfl,rN,_,_,_,_⟩
 dsimp only
 have HN:=hid rN
 have HEM:=hid em
 have HBM:=hid (HGR.out.bel.trans (hbm.mono HGR.out.bel.size))
 clear KR g0 rN em hbm HGR HRF
 have hbx:(w1.alloc (.cells #[.slice AN ml.length cn,.slice AK kl.length ck,.int .i64 (-1),.slice AF 0 cf,.slice AC 0 cc] 32)).heap[w1.heap.size]? = some (.cells #[.slice AN ml.length cn,.slice AK kl.length ck,.int .i64 (-1),.slice AF 0 cf,.slice AC 0 cc] 32 (0,0)):=heap_alloc_new _ _
 have hbl:Below w1.heap.size w1 (w1.alloc (.cells #[.slice AN ml.length cn,.slice AK kl.length ck,.int .i64 (-1),.slice AF 0 cf,.slice AC 0 cc] 32)):=(Below.refl _ _).alloc (Nat.le_refl _) _
 have HBX:=hid hbx
 have HBL:=hid hbl
 clear hbx hbl
 obtain ⟨d,rfl⟩:∃d,i=a+d:=⟨i-a,by omega⟩
 have hml:ml.length=d:=by rw[<-List.length_map (f:=FLV.pl),HEM.out,HAP.out.len];omega
 rw[hml] at HBX HBL HN ⊢
 go_wp2_with fail
 refine (aRv (HM.out.to (HBM.out.trans (HBL.out.mono HBM.out.size)))).mono ?_
 rintro e w2 ⟨rfl,hb2⟩
 have HX2:=hid ((hb2.block _ (aAa HBX.out)).trans HBX.out)
 have HB2:=hid (HBL.out.trans (hb2.mono HBL.out.size))
 have HN2:=hid (HN.out.to HB2.out HB2.out.size)
 have HW2:=hid (HBM.out.trans (HB2.out.mono HBM.out.size))
 clear HBX HBL hb2 HB2 HN HBM
 generalize w1.heap.size=xb at *
 have c0:w2.cell? ⟨xb,0,none⟩=some (.slice AN d cn):=(Lib.cell_of_heap HX2.out 0).trans rfl
 have c2:w2.cell? ⟨xb,2,none⟩=some (.int .i64 (-1)):=(Lib.cell_of_heap HX2.out 2).trans rfl
 go_wp2
 have HCX:=hid (And.intro c0 c2)
 clear c0 c2
 have hj5:=k5
 go_loopw[16] (fun iv wr=>∃p:Nat,p<=d/\iv=.int .i64 p/\Hid (Below w2.heap.size w2 wr)) (fun p _=>d-(intOf p).toNat)
 case atStart=>exact ⟨0,Nat.zero_le _,rfl,hid (Below.refl _ _)⟩
 obtain ⟨p,hp,rfl,hbr⟩:=hrel
 have c0:wr.cell? ⟨xb,0,none⟩=some (.slice AN d cn):=(hbr.out.cell (p:=⟨xb,0,none⟩) (aAa HX2.out)).trans HCX.out.1
 by_cases hlt:p<d
 ·have HNR:=HN2.out.to hbr.out hbr.out.size
  obtain ⟨b0,o0,f,eA,hbb,hx,hf,k0,k1,k2⟩:=HNR.get hlt
  subst eA
  obtain ⟨s1,s2,s3,s4⟩:=HAP.out.sees p f.pl (by rw[<-HEM.out,List.getElem?_map,hx];rfl)
  have HRF:=hid (HNR.parts f hf)
  rw[show f.msg=⟨#[97]⟩++dec (a+p) from s2] at k1
  rw[show f.files.length=j+p+1 from s1] at k2
  have HK:=hid (And.intro hbb (And.intro k1 k2))
  have HS3:=hid s3
  have HS4:=hid s4
  have HC0:=hid c0
  have hds:=aTv (v:=a+p) (by omega)
  have HXR:=hid (show xb<wr.heap.size from Nat.lt_of_lt_of_le (aAa HX2.out) hbr.out.size)
  obtain ⟨y,ey⟩:=Option.isSome_iff_exists.1 s3
  have HRD:=hid (show RdF wr wr.heap.size f.A (j+p+1) f.c f.files by rw[<-show f.files.length=j+p+1 from s1];exact HRF.out.1)
  have KFH:=hid (fun (u:World) (hu:Below wr.heap.size wr u)=>show Calls Tryz.prog 25 #[.slice f.A (j+p+1) f.c,.string (⟨#[97]⟩++dec (a+p))] u (fun e w'=>e=.returned (.tuple #[.agg #[.string y.path,.bool y.exec,.string y.text],.bool true])/\Below u.heap.size u w') from
   (aLl (by omega) (HRD.out.to hu hu.size)).mono fun e w' h=>by
    rw[show findP f.files (⟨#[97]⟩++dec (a+p))=some y from ey] at h;exact h)
  have hi48:(Tryz.prog.info? 48).map (·.size)=some 3:=by kernel_rfl
  clear s1 s2 s3 s4 k0 k1 k2 hbb hx hf HNR ey
  go_wp2
  refine aAi (fun u=>Below wr.heap.size wr u) [(true,0),(true,1),(true,2),(true,3),(true,4),(true,5),(true,6),(true,7),(true,8),(true,9),(true,10),(true,11),(true,12),(true,13),(true,14),(true,15),(true,16),(true,17),(true,18),(true,19),(true,20),(true,21),(false,22),(true,23),(true,24),(true,25)] mixed (by kernel_rfl) (Below.refl _ _).drew ?_
  intro T M Q hT hT' hM hQ
  have m0:M ⟨xb,0,none⟩=some (.slice (some ⟨b0,o0,none⟩) d cn):=hM _ _ fun w' hw=>(hw.cell (p:=⟨xb,0,none⟩) HXR.out).trans HC0.out
  have m1:M ⟨b0,o0+p*3+1,none⟩=some (.string (⟨#[97]⟩++dec (a+p))):=hM _ _ fun w' hw=>(hw.cell (p:=⟨b0,o0+p*3+1,none⟩) HK.out.1).trans HK.out.2.1
  have m2:M ⟨b0,o0+p*3+2,none⟩=some (.slice f.A (j+p+1) f.c):=hM _ _ fun w' hw=>(hw.cell (p:=⟨b0,o0+p*3+2,none⟩) HK.out.1).trans HK.out.2.2
  clear hM
  simp only[qcmp]
  simp (maxSteps:=9^7) only[↓qpre,aAb,aAd,aAc,m0,m1,m2]
  have KD:=fun u=>aNu 1 (a+p) (by omega) (Nat.le_refl _) (by omega) u
  simp only[Int.natCast_add] at KD
  have KDH:=hid KD
  refine ⟨⟨by omega,by omega⟩,by unfold inI64;omega,by unfold inI64;omega,?_⟩
  rw[show decide (((j+p+1:Nat):Int)=(j:Int)+(p:Int)+1)=true from decide_eq_true (by omega)]
  simp (maxSteps:=9^7) only[Bool.not_true,↓qpre]
  have hd0:Below wr.heap.size wr wr.drew:=(Below.refl _ _).drew
  refine ⟨⟨by omega,by omega⟩,by unfold inI64;omega,?_⟩
  refine aAf (by kernel_rfl) (KD _) rfl rfl ?_
  rintro e u1 ⟨rfl,hb1⟩
  have hb2:=hd0.trans (hb1.mono hd0.size)
  refine ⟨_,rfl,hT _ hb2,?_⟩
  simp (maxSteps:=9^7) only[↓qpre,aAb,aAc]
  refine ⟨by show ((1+_:Nat):Int)<=_;omega,?_⟩
  refine hQ _ _ ?_
  have HB2:=hid hb2
  clear hQ hT hT' m0 m1 m2 hd0 hb1 hb2 KD
  clear T M Q
  go_wp2
  obtain ⟨Va,eVa⟩:∃V,V=u1.drew:=⟨_,rfl⟩
  have HVa:=hid (show Below wr.heap.size wr Va by rw[eVa];exact HB2.out.trans ((Below.refl _ _).drew.mono HB2.out.size))
  refine aAs (fun u=>Below wr.heap.size wr u) (.q 0 (.q 1 (.q 2 (.q 3 (.q 4 (.q 5 (.q 6 (.q 7 (.q 8 (.two 9 (.q 10 (.two 11 (.q 12 (.q 13 (.q 14 (.one 15 (.one 16 (.q 17 .leaf)))))) 15 (.one 11 (.q 12 (.q 13 (.q 14 (.one 16 (.q 17 .leaf)))))))) 15 (.one 9 (.q 10 (.one 11 (.q 12 (.q 13 (.q 14 (.one 16 (.q 17 .leaf)))))))))))))))))) mixed (by kernel_rfl) (by rw[<-eVa];exact HVa.out) ?_
  intro Tp M Q hT hT' hM hQ
  rw[<-eVa]
  have m0:M ⟨xb,0,none⟩=some (.slice (some ⟨b0,o0,none⟩) d cn):=hM _ _ fun w' hw=>(hw.cell (p:=⟨xb,0,none⟩) HXR.out).trans HC0.out
  have m2:M ⟨b0,o0+p*3+2,none⟩=some (.slice f.A (j+p+1) f.c):=hM _ _ fun w' hw=>(hw.cell (p:=⟨b0,o0+p*3+2,none⟩) HK.out.1).trans HK.out.2.2
  clear hM
  refine aDb ?_
  intro O hO
  have t0:=hO true 0
  have t1:=hO true 1
  have t2:=hO true 2
  have t3:=hO true 3
  have t4:=hO true 4
  have t5:=hO true 5
  have t6:=hO true 6
  have t7:=hO true 7
  have t8:=hO true 8
  have t10:=hO true 10
  have t12:=hO true 12
  have t13:=hO true 13
  have t14:=hO true 14
  have t17:=hO true 17
  have e9:=hO false 9
  have e11:=hO false 11
  have e15:=hO false 15
  have e16:=hO false 16
  simp only[qcmp] at t0 t1 t2 t3 t4 t5 t6 t7 t8 t10 t12 t13 t14 t17 e9 e11 e15 e16
  clear hO
  simp (maxSteps:=9^7) only[↓wt_q,↓aAw,t0,t1,t2,t3,t4,t5,t6,t7,t8,e9,e15,↓qpre,aAb,aAd,aAc,m0,m2]
  (repeat refine And.intro (by first|omega|(unfold inI64;omega)) ?_)
  refine ⟨?ordABa,?ordCa⟩
  case' ordABa=>
   refine aAf (by kernel_rfl) (KDH.out _) rfl rfl ?_
   rintro e u1 ⟨rfl,hc1⟩
   have hb1:Below wr.heap.size wr u1:=(HVa.out).trans (hc1.mono (HVa.out).size)
   refine ⟨_,rfl,hT _ hb1,?_⟩
   simp (maxSteps:=9^7) only[↓wt_q,↓aAw,t10,e11,e15,↓qpre,aAb,aAc]
   refine ⟨by show ((1+_:Nat):Int)<=_;omega,?_⟩
   refine ⟨?ordAa,?ordBa⟩
   case' ordAa=>
    refine aAf (by kernel_rfl) (KFH.out _ (hb1)) rfl rfl ?_
    rintro e u2 ⟨rfl,hc2⟩
    have hb2:Below wr.heap.size wr u2:=(hb1).trans (hc2.mono (hb1).size)
    refine ⟨_,rfl,hT _ hb2,?_⟩
    simp (maxSteps:=9^7) only[↓wt_q,↓aAk,t12,t13,t14,e15,↓qpre,aAb,aAc]
    have hb3:Below wr.heap.size wr (u2.alloc (.cells #[.string ⟨#[]⟩,.bool false,.string ⟨#[]⟩] 48)):=(hb2).alloc (hb2).size _
    have hn:=heap_alloc_new u2 (.cells #[.string ⟨#[]⟩,.bool false,.string ⟨#[]⟩] 48)
    have hlo:=(hb2).size
    refine aBb zeroFile ⟨hT _ hb3,?_⟩
    simp (maxSteps:=9^7) only[↓aAk,e16,aAb,aAc]
    have hbs:Below wr.heap.size wr (World.setRow _ u2.heap.size #[.string y.path,.bool y.exec,.string y.text]):=aAj (cs:=#[.string y.path,.bool y.exec,.string y.text]) (hb3) hlo
    refine aAn (g:=u2.heap.size) (cells:=#[.string y.path,.bool y.exec,.string y.text]) rfl rfl hn hi48 rfl (by simp[Value.oneCell']) ⟨hT _ hbs,?_⟩
    simp (maxSteps:=9^7) only[↓wt_q,↓aCq,t17,↓qpre,aAb,aAc]
    refine hQ _ _ ?_
    have HUa:=hid hbs
    try simp only[Value.cells] at HUa ⊢
    generalize World.setRow _ _ _=Ua at *
    generalize u2.heap.size=fba at *
    clear hbs hn hlo hb1 hb2 hb3 hc1 hc2
   case' ordBa=>
    have hb2:Below wr.heap.size wr (u1.alloc (.cells #[.string ⟨#[]⟩,.bool false,.string ⟨#[]⟩] 48)):=(hb1).alloc (hb1).size _
    have hn:=heap_alloc_new u1 (.cells #[.string ⟨#[]⟩,.bool false,.string ⟨#[]⟩] 48)
    have hlo:=(hb1).size
    refine aBb zeroFile ⟨hT _ hb2,?_⟩
    simp (maxSteps:=9^7) only[↓aAk,e11,aAb,aAc]
    refine aAf (by kernel_rfl) (KFH.out _ (hb2)) rfl rfl ?_
    rintro e u3 ⟨rfl,hc3⟩
    have hb3:Below wr.heap.size wr u3:=(hb2).trans (hc3.mono (hb2).size)
    replace hn:=(hc3.block _ (aAa hn)).trans hn
    refine ⟨_,rfl,hT _ hb3,?_⟩
    simp (maxSteps:=9^7) only[↓wt_q,↓aAk,t12,t13,t14,e16,↓qpre,aAb,aAc]
    have hbs:Below wr.heap.size wr (World.setRow _ u1.heap.size #[.string y.path,.bool y.exec,.string y.text]):=aAj (cs:=#[.string y.path,.bool y.exec,.string y.text]) (hb3) hlo
    refine aAn (g:=u1.heap.size) (cells:=#[.string y.path,.bool y.exec,.string y.text]) rfl rfl hn hi48 rfl (by simp[Value.oneCell']) ⟨hT _ hbs,?_⟩
    simp (maxSteps:=9^7) only[↓wt_q,↓aCq,t17,↓qpre,aAb,aAc]
    refine hQ _ _ ?_
    have HUa:=hid hbs
    try simp only[Value.cells] at HUa ⊢
    generalize World.setRow _ _ _=Ua at *
    generalize u1.heap.size=fba at *
    clear hbs hn hlo hb1 hb2 hb3 hc1 hc3
  case' ordCa=>
   have hb1:Below wr.heap.size wr (Va.alloc (.cells #[.string ⟨#[]⟩,.bool false,.string ⟨#[]⟩] 48)):=(HVa.out).alloc (HVa.out).size _
   have hn:=heap_alloc_new Va (.cells #[.string ⟨#[]⟩,.bool false,.string ⟨#[]⟩] 48)
   have hlo:=(HVa.out).size
   refine aBb zeroFile ⟨hT _ hb1,?_⟩
   simp (maxSteps:=9^7) only[↓aAk,e9,aAb,aAc]
   refine aAf (by kernel_rfl) (KDH.out _) rfl rfl ?_
   rintro e u2 ⟨rfl,hc2⟩
   have hb2:Below wr.heap.size wr u2:=(hb1).trans (hc2.mono (hb1).size)
   replace hn:=(hc2.block _ (aAa hn)).trans hn
   refine ⟨_,rfl,hT _ hb2,?_⟩
   simp (maxSteps:=9^7) only[↓wt_q,↓aAk,t10,e11,↓qpre,aAb,aAc]
   refine ⟨by show ((1+_:Nat):Int)<=_;omega,?_⟩
   refine aAf (by kernel_rfl) (KFH.out _ (hb2)) rfl rfl ?_
   rintro e u3 ⟨rfl,hc3⟩
   have hb3:Below wr.heap.size wr u3:=(hb2).trans (hc3.mono (hb2).size)
   replace hn:=(hc3.block _ (aAa hn)).trans hn
   refine ⟨_,rfl,hT _ hb3,?_⟩
   simp (maxSteps:=9^7) only[↓wt_q,↓aAk,t12,t13,t14,e16,↓qpre,aAb,aAc]
   have hbs:Below wr.heap.size wr (World.setRow _ Va.heap.size #[.string y.path,.bool y.exec,.string y.text]):=aAj (cs:=#[.string y.path,.bool y.exec,.string y.text]) (hb3) hlo
   refine aAn (g:=Va.heap.size) (cells:=#[.string y.path,.bool y.exec,.string y.text]) rfl rfl hn hi48 rfl (by simp[Value.oneCell']) ⟨hT _ hbs,?_⟩
   simp (maxSteps:=9^7) only[↓wt_q,↓aCq,t17,↓qpre,aAb,aAc]
   refine hQ _ _ ?_
   have HUa:=hid hbs
   try simp only[Value.cells] at HUa ⊢
   generalize World.setRow _ _ _=Ua at *
   generalize Va.heap.size=fba at *
   clear hbs hn hlo hb1 hb2 hb3 hc2 hc3
  all_goals
   clear hQ hT hT' m0 m2 t0 t1 t2 t3 t4 t5 t6 t7 t8 t10 t12 t13 t14 t17 e9 e11 e15 e16
   clear Tp M Q O
   by_cases ha0:0<a
   ·have HS4H:=HS4.out ha0
    have hds2:=aTv (v:=a-1) (by omega)
    have KD2:=fun u=>aNu 1 (a-1) (by omega) (Nat.le_refl _) (by omega) u
    rw[show ((a-1:Nat):Int)=(a:Int)-1 by omega] at KD2
    have KD2H:=hid KD2
    clear KD2
    have KF2H:=hid (fun (u:World) (hu:Below wr.heap.size wr u)=>show Calls Tryz.prog 25 #[.slice f.A (j+p+1) f.c,.string (⟨#[97]⟩++dec (a-1))] u (fun e w'=>e=.returned (.tuple #[.agg #[.string zF.path,.bool zF.exec,.string zF.text],.bool false])/\Below u.heap.size u w') from
     (aLl (by omega) (HRD.out.to hu hu.size)).mono fun e w' h=>by
      rw[show findP f.files (⟨#[97]⟩++dec (a-1))=none from Option.isSome_eq_false_iff.1 HS4H |> Option.isNone_iff_eq_none.1] at h;exact h)
    clear HS4H
    go_wp2
    obtain ⟨Vb,eVb⟩:∃V,V=Ua.drew:=⟨_,rfl⟩
    have HVb:=hid (show Below wr.heap.size wr Vb by rw[eVb];exact HUa.out.trans ((Below.refl _ _).drew.mono HUa.out.size))
    refine aAs (fun u=>Below wr.heap.size wr u) (.q 0 (.q 1 (.q 2 (.q 3 (.q 4 (.q 5 (.q 6 (.q 7 (.two 8 (.q 9 (.two 10 (.q 11 (.q 12 (.q 13 (.one 14 (.one 15 (.q 16 .leaf)))))) 14 (.one 10 (.q 11 (.q 12 (.q 13 (.one 15 (.q 16 .leaf)))))))) 14 (.one 8 (.q 9 (.one 10 (.q 11 (.q 12 (.q 13 (.one 15 (.q 16 .leaf))))))))))))))))) mixed (by kernel_rfl) (by rw[<-eVb];exact HVb.out) ?_
    intro Tp M Q hT hT' hM hQ
    rw[<-eVb]
    have m0:M ⟨xb,0,none⟩=some (.slice (some ⟨b0,o0,none⟩) d cn):=hM _ _ fun w' hw=>(hw.cell (p:=⟨xb,0,none⟩) HXR.out).trans HC0.out
    have m2:M ⟨b0,o0+p*3+2,none⟩=some (.slice f.A (j+p+1) f.c):=hM _ _ fun w' hw=>(hw.cell (p:=⟨b0,o0+p*3+2,none⟩) HK.out.1).trans HK.out.2.2
    clear hM
    refine aDb ?_
    intro O hO
    have t0:=hO true 0
    have t1:=hO true 1
    have t2:=hO true 2
    have t3:=hO true 3
    have t4:=hO true 4
    have t5:=hO true 5
    have t6:=hO true 6
    have t7:=hO true 7
    have t9:=hO true 9
    have t11:=hO true 11
    have t12:=hO true 12
    have t13:=hO true 13
    have t16:=hO true 16
    have e8:=hO false 8
    have e10:=hO false 10
    have e14:=hO false 14
    have e15:=hO false 15
    simp only[qcmp] at t0 t1 t2 t3 t4 t5 t6 t7 t9 t11 t12 t13 t16 e8 e10 e14 e15
    clear hO
    simp (maxSteps:=9^7) only[↓wt_q,↓aAw,t0,t1,t2,t3,t4,t5,t6,t7,e8,e14,↓qpre,aAb,aAd,aAc,m0,m2]
    (repeat refine And.intro (by first|omega|(unfold inI64;omega)) ?_)
    refine And.intro ?_ ?_
    ·refine aAf (by kernel_rfl) (KD2H.out _) rfl rfl ?_
     rintro e u1 ⟨rfl,hc1⟩
     have hb1:Below wr.heap.size wr u1:=(HVb.out).trans (hc1.mono (HVb.out).size)
     refine ⟨_,rfl,hT _ hb1,?_⟩
     simp (maxSteps:=9^7) only[↓wt_q,↓aAw,t9,e10,e14,↓qpre,aAb,aAc]
     refine ⟨by show ((1+_:Nat):Int)<=_;omega,?_⟩
     refine And.intro ?_ ?_
     ·refine aAf (by kernel_rfl) (KF2H.out _ (hb1)) rfl rfl ?_
      rintro e u2 ⟨rfl,hc2⟩
      have hb2:Below wr.heap.size wr u2:=(hb1).trans (hc2.mono (hb1).size)
      refine ⟨_,rfl,hT _ hb2,?_⟩
      simp (maxSteps:=9^7) only[↓wt_q,↓aAk,t11,t12,t13,e14,↓qpre,aAb,aAc]
      have hb3:Below wr.heap.size wr (u2.alloc (.cells #[.string ⟨#[]⟩,.bool false,.string ⟨#[]⟩] 48)):=(hb2).alloc (hb2).size _
      have hn:=heap_alloc_new u2 (.cells #[.string ⟨#[]⟩,.bool false,.string ⟨#[]⟩] 48)
      have hlo:=(hb2).size
      refine aBb zeroFile ⟨hT _ hb3,?_⟩
      simp (maxSteps:=9^7) only[↓aAk,e15,aAb,aAc]
      have hbs:Below wr.heap.size wr (World.setRow _ u2.heap.size #[.string zF.path,.bool zF.exec,.string zF.text]):=aAj (cs:=#[.string zF.path,.bool zF.exec,.string zF.text]) (hb3) hlo
      refine aAn (g:=u2.heap.size) (cells:=#[.string zF.path,.bool zF.exec,.string zF.text]) rfl rfl hn hi48 rfl (by simp[Value.oneCell']) ⟨hT _ hbs,?_⟩
      simp (maxSteps:=9^7) only[↓wt_q,↓aCq,t16,↓qpre,aAb,aAc]
      refine hQ _ _ ?_
      have HUb:=hid hbs
      try simp only[Value.cells] at HUb ⊢
      generalize World.setRow _ _ _=Ub at *
      generalize u2.heap.size=fbb at *
      clear hbs hn hlo hb1 hb2 hb3 hc1 hc2
      clear hQ hT hT' m0 m2 t0 t1 t2 t3 t4 t5 t6 t7 t9 t11 t12 t13 t16 e8 e10 e14 e15
      clear Tp M Q O
      have HBB:=hid (hbr.out.trans (HUb.out.mono hbr.out.size))
      go_wp2
      go_roundw
      case rel=>exact ⟨p+1,by omega,by go_num,HBB⟩
      simp[intOf];omega
     have hb2:Below wr.heap.size wr (u1.alloc (.cells #[.string ⟨#[]⟩,.bool false,.string ⟨#[]⟩] 48)):=(hb1).alloc (hb1).size _
     have hn:=heap_alloc_new u1 (.cells #[.string ⟨#[]⟩,.bool false,.string ⟨#[]⟩] 48)
     have hlo:=(hb1).size
     refine aBb zeroFile ⟨hT _ hb2,?_⟩
     simp (maxSteps:=9^7) only[↓aAk,e10,aAb,aAc]
     refine aAf (by kernel_rfl) (KF2H.out _ (hb2)) rfl rfl ?_
     rintro e u3 ⟨rfl,hc3⟩
     have hb3:Below wr.heap.size wr u3:=(hb2).trans (hc3.mono (hb2).size)
     replace hn:=(hc3.block _ (aAa hn)).trans hn
     refine ⟨_,rfl,hT _ hb3,?_⟩
     simp (maxSteps:=9^7) only[↓wt_q,↓aAk,t11,t12,t13,e15,↓qpre,aAb,aAc]
     have hbs:Below wr.heap.size wr (World.setRow _ u1.heap.size #[.string zF.path,.bool zF.exec,.string zF.text]):=aAj (cs:=#[.string zF.path,.bool zF.exec,.string zF.text]) (hb3) hlo
     refine aAn (g:=u1.heap.size) (cells:=#[.string zF.path,.bool zF.exec,.string zF.text]) rfl rfl hn hi48 rfl (by simp[Value.oneCell']) ⟨hT _ hbs,?_⟩
     simp (maxSteps:=9^7) only[↓wt_q,↓aCq,t16,↓qpre,aAb,aAc]
     refine hQ _ _ ?_
     have HUb:=hid hbs
     try simp only[Value.cells] at HUb ⊢
     generalize World.setRow _ _ _=Ub at *
     generalize u1.heap.size=fbb at *
     clear hbs hn hlo hb1 hb2 hb3 hc1 hc3
     clear hQ hT hT' m0 m2 t0 t1 t2 t3 t4 t5 t6 t7 t9 t11 t12 t13 t16 e8 e10 e14 e15
     clear Tp M Q O
     have HBB:=hid (hbr.out.trans (HUb.out.mono hbr.out.size))
     go_wp2
     go_roundw
     case rel=>exact ⟨p+1,by omega,by go_num,HBB⟩
     simp[intOf];omega
    have hb1:Below wr.heap.size wr (Vb.alloc (.cells #[.string ⟨#[]⟩,.bool false,.string ⟨#[]⟩] 48)):=(HVb.out).alloc (HVb.out).size _
    have hn:=heap_alloc_new Vb (.cells #[.string ⟨#[]⟩,.bool false,.string ⟨#[]⟩] 48)
    have hlo:=(HVb.out).size
    refine aBb zeroFile ⟨hT _ hb1,?_⟩
    simp (maxSteps:=9^7) only[↓aAk,e8,aAb,aAc]
    refine aAf (by kernel_rfl) (KD2H.out _) rfl rfl ?_
    rintro e u2 ⟨rfl,hc2⟩
    have hb2:Below wr.heap.size wr u2:=(hb1).trans (hc2.mono (hb1).size)
    replace hn:=(hc2.block _ (aAa hn)).trans hn
    refine ⟨_,rfl,hT _ hb2,?_⟩
    simp (maxSteps:=9^7) only[↓wt_q,↓aAk,t9,e10,↓qpre,aAb,aAc]
    refine ⟨by show ((1+_:Nat):Int)<=_;omega,?_⟩
    refine aAf (by kernel_rfl) (KF2H.out _ (hb2)) rfl rfl ?_
    rintro e u3 ⟨rfl,hc3⟩
    have hb3:Below wr.heap.size wr u3:=(hb2).trans (hc3.mono (hb2).size)
    replace hn:=(hc3.block _ (aAa hn)).trans hn
    refine ⟨_,rfl,hT _ hb3,?_⟩
    simp (maxSteps:=9^7) only[↓wt_q,↓aAk,t11,t12,t13,e15,↓qpre,aAb,aAc]
    have hbs:Below wr.heap.size wr (World.setRow _ Vb.heap.size #[.string zF.path,.bool zF.exec,.string zF.text]):=aAj (cs:=#[.string zF.path,.bool zF.exec,.string zF.text]) (hb3) hlo
    refine aAn (g:=Vb.heap.size) (cells:=#[.string zF.path,.bool zF.exec,.string zF.text]) rfl rfl hn hi48 rfl (by simp[Value.oneCell']) ⟨hT _ hbs,?_⟩
    simp (maxSteps:=9^7) only[↓wt_q,↓aCq,t16,↓qpre,aAb,aAc]
    refine hQ _ _ ?_
    have HUb:=hid hbs
    try simp only[Value.cells] at HUb ⊢
    generalize World.setRow _ _ _=Ub at *
    generalize Vb.heap.size=fbb at *
    clear hbs hn hlo hb1 hb2 hb3 hc2 hc3
    clear hQ hT hT' m0 m2 t0 t1 t2 t3 t4 t5 t6 t7 t9 t11 t12 t13 t16 e8 e10 e14 e15
    clear Tp M Q O
    have HBB:=hid (hbr.out.trans (HUb.out.mono hbr.out.size))
    go_wp2
    go_roundw
    case rel=>exact ⟨p+1,by omega,by go_num,HBB⟩
    simp[intOf];omega
   have HBB:=hid (hbr.out.trans (HUa.out.mono hbr.out.size))
   go_wp2
   go_roundw
   case rel=>exact ⟨p+1,by omega,by go_num,HBB⟩
   simp[intOf];omega
 have hpd:p=d:=by omega
 have HE:=hid (HW2.out.trans (hbr.out.mono HW2.out.size))
 go_wp2
 go_ret
 exact ⟨rfl,HE.out⟩
end Go.Proofs.YtohblmepajhpaaaGreatDoor
namespace Go.Proofs.YtohblmepajhpaaaGreatDoor
open Go.ChangeShapes Go.WideShapes Go.ChangeAt Go.RowKit
def uAcc:List Int:=[128,191,160,191,128,159,144,191,128,143,0,0,0,0,0,0,0,0,0,0,0,0,0,0,0,0,0,0,0,0,0,0]
def T.cellsOf (cs:List Value):Obj->Obj
 | .cells _ t frozen=>.cells cs.toArray t frozen
 | o=>o
def uFirst:List Value:=Go.Pinned.utf8FirstZ.map fun (z:Nat)=>Value.int .u8 (Int.ofNat z)
noncomputable def laidU (os:Os):World:=
 { World.holding Tryz.prog os ⟨#[],#[],[]⟩ with heap:=((World.holding Tryz.prog os ⟨#[],#[],[]⟩).heap.modify 1 (T.cellsOf uFirst)).modify 2 (T.cellsOf (uAcc.map fun z=>.int .u8 z)) }
section
variable {H:Type} {enc:TypeId×Value->H} {W:World}
def Opens (enc:TypeId×Value->H)(W:World)(t:TypeId)(E:List Value->Prop):Prop:=
 ∀fuel cs x,DataW.trod enc Tryz.prog W 0 (fun _=>true) true fuel t cs=some x->(∀n∈DataW.weights Tryz.prog t x.1,n<=reachBytes)->E cs
theorem aLf {t:TypeId}(ht:Tryz.prog.underlying t=some (.int .i64)):Opens enc W t fun cs=>∃k:Int,cs=[.int .i64 k]/\-9223372036854775808<=k/\k<=9223372036854775807:=by
 intro fuel cs x h _
 obtain ⟨k,rfl,_,hw⟩:=DataW.trod_int ht h
 simp only[Lit.wf,Bool.and_eq_true,decide_eq_true_eq] at hw
 have e1:IntKind.i64.min=-9223372036854775808:=by decide
 have e2:IntKind.i64.max=9223372036854775807:=by decide
 rw[e1,e2] at hw
 exact ⟨k,rfl,hw⟩
theorem aNf {t:TypeId}{E:List Value->Prop}(O:Opens enc W t E){ts:List TypeId}{ds:List (DataW H)}{v:Value}{d:DataW H}{ps:List MemPlace}{j:Nat}
  (hsz:(DataW.weightsEach Tryz.prog ts ds).all (·<=reachBytes)=true) (ht:ts[j]? = some t) (hd:ds[j]? = some d) (h:DataW.Trod enc Tryz.prog W 0 (fun _=>true) true t v d ps):E v.cells.toList:=by
 obtain ⟨fuel,hf⟩:=h
 refine O fuel _ _ hf fun n hn=>?_
 have:=List.all_eq_true.1 hsz _ (DataW.weights_mem_each ht hd n hn)
 simpa using this
end
section
variable {H:Type} {enc:TypeId×Value->H} {W:World}
def FileCells (cs:List Value):Prop:=∃f:FV,cs=f.cells/\f.path.size<=140737488351232/\f.text.size<=140737488351232
def FilesCells (W:World)(cs:List Value):Prop:=∃(A:Option Addr) (c:Nat) (l:List FV),cs=[.slice A l.length c]/\RdF W W.heap.size A l.length c l/\l.length<=17592186044416
end
end Go.Proofs.YtohblmepajhpaaaGreatDoor
