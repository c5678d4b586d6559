/- Texts of the walks, together: Walk: awake of the laws of moves. Walk: the law MoveRefuses. The world in which the tables of unicode/utf8 lie as the program lays them. Arguments opened by their types' shapes: one law for each kind of type. Files among a law's arguments: opened. Four arguments of a law: opened. Commits and markers among a law's arguments: opened. -/
import Derived.Test.YtohblmepajhpaaaGreatDoorRows
import Derived.Test.YtohblmepajhpaaaGreatDoorCards
import Derived.Test.YtohblmepajhpaaaGreatDoorTie
import Derived.ProofKit
import Derived.OpenShut
import Derived.Deep.DeepHandedRow
import Derived.SevenTiedAt
import Derived.SizedLaws
import Derived.SliceStrings
import Derived.ChangeArms
import Derived.ChangeSame
import Derived.ChangeOld
import Derived.ChangeSlices
import Derived.Test.YtohblmepajhpaaaGreatDoorG01
import Derived.Test.YtohblmepajhpaaaGreatDoorG02
import Derived.Test.YtohblmepajhpaaaGreatDoorG03
import Derived.Test.YtohblmepajhpaaaGreatDoorG08
import Derived.Test.YtohblmepajhpaaaGreatDoorG23
set_option maxHeartbeats 16000000
set_option maxRecDepth 100000
open Go.Lib (hid)
namespace Go.Proofs.YtohblmepajhpaaaGreatDoor
open Go.RowKit
def wA:FV:=⟨⟨#[97]⟩,false,⟨#[]⟩⟩
theorem okWA:FileOk wA:=⟨by decide +kernel,by decide +kernel⟩
def awakeL:List FL:=[⟨-1,⟨#[]⟩,[]⟩,⟨0,⟨#[97]⟩,[wA]⟩,⟨0,⟨#[]⟩,[wB]⟩]
theorem aPg:∃fs:List FV,fs.length=2/\rebaseF awakeL [] 1 2 []=(⟨[⟨2,⟨#[97]⟩,fs⟩],[(1,[3])],-1,[],[]⟩,0):=by
 obtain ⟨h1,h2⟩:=bDw okWB okWA (by decide +kernel)
 refine ⟨(treemergeF [] [wB] [wA]).1,h1,?_⟩
 have hp:parF awakeL=[-1,0,0]:=rfl
 have ha:argsOk awakeL [] 1 2=true:=by
  have hr:rightL awakeL []=true:=by
   unfold rightL
   rw[hp]
   simp only[awakeL,List.all_cons,List.all_nil,aCy,aEf okWA,aEf okWB]
   decide +kernel
  unfold argsOk
  rw[hr]
  decide +kernel
 have hm:mergedOn awakeL [] 1 2=treemergeF [] [wB] [wA]:=rfl
 have ho:oneOn [] awakeL 1 2=.ok (awakeL++[⟨2,⟨#[97]⟩,(treemergeF [] [wB] [wA]).1⟩]):=by
  unfold oneOn
  rw[hm,h2,if_neg (by decide),if_neg (fun h=>h rfl),if_neg (by decide +kernel)]
  rfl
 have hv:moved (parF awakeL) [] 1=[1]:=by rw[hp];decide +kernel
 have hb:above (parF awakeL) 1 2=false:=by rw[hp];decide +kernel
 have hq:par (parF awakeL) 1=0:=by rw[hp];decide +kernel
 have hall:allF [] [1] awakeL 1 2=.ok (awakeL++[⟨2,⟨#[97]⟩,(treemergeF [] [wB] [wA]).1⟩],[(1,[3])]):=by
  unfold allF
  rw[if_neg (by rw[hb];decide),if_neg (by rw[hq];decide),runF',hq,show nowF [] 2 0=2 from rfl,ho]
  rfl
 unfold rebaseF
 rw[if_neg (by rw[ha];decide),hv,hall]
 rfl
theorem aRi (s:ByteArray)(w:World):(Instr.build 48 #[(0,.string s)]).run Tryz.prog w=.ok (.agg #[.string s,.bool false,.string ⟨#[]⟩]) w:=by
 go_simp
theorem aZo (p:Int)(w:World):(Instr.build 40 #[(0,.int .i64 p)]).run Tryz.prog w=.ok (.agg #[.int .i64 p,.string ⟨#[]⟩,.slice none 0 0]) w:=by
 go_simp
theorem aSr (p:Int)(m:ByteArray)(A:Option Addr)(n c:Nat)(w:World):(Instr.build 40 #[(0,.int .i64 p),(1,.string m),(2,.slice A n c)]).run Tryz.prog w=.ok (.agg #[.int .i64 p,.string m,.slice A n c]) w:=by
 go_simp
theorem aUq (w:World)(l:List FV)(xs:Array Value)(hx:xs.toList=l.flatMap FV.cells)(hf:∀f∈l,f.path.size<=140737488351232/\f.text.size<=140737488351232) :
  RdF (w.alloc (.cells xs 48)) (w.alloc (.cells xs 48)).heap.size (some ⟨w.heap.size,0,none⟩) l.length l.length l:=
 ⟨aMt (heap_alloc_new w _) (by rw[FV.len_flat]) (Nat.le_refl _) fun j u hu=>by rw[<-hx] at hu;simpa using hu,rfl,hf⟩
def awakeV (q:Nat):List FLV:=[⟨-1,⟨#[]⟩,none,0,[]⟩,⟨0,⟨#[97]⟩,some ⟨q,0,none⟩,1,[wA]⟩,⟨0,⟨#[]⟩,some ⟨q+1,0,none⟩,1,[wB]⟩]
theorem aTn {w:World}(hm:Lm w):Calls Tryz.prog 10 #[] w (BoolBelow true w):=by
 have h1:=fun u=>aRi ⟨#[97]⟩ u
 have h2:=fun u=>aRi ⟨#[98]⟩ u
 have h3:=fun u=>aZo (-1) u
 have h4:=aSr
 have h5:=aIc
 obtain ⟨V1,e1⟩:∃V,V=w.alloc (.cells #[.string ⟨#[97]⟩,.bool false,.string ⟨#[]⟩] 48):=⟨_,rfl⟩
 obtain ⟨V2,e2⟩:∃V,V=V1.alloc (.cells #[.string ⟨#[98]⟩,.bool false,.string ⟨#[]⟩] 48):=⟨_,rfl⟩
 obtain ⟨V3,e3⟩:∃V,V=V2.alloc (.cells #[.int .i64 (-1),.string ⟨#[]⟩,.slice none 0 0,.int .i64 0,.string ⟨#[97]⟩,.slice (some ⟨w.heap.size,0,none⟩) 1 1,.int .i64 0,.string ⟨#[]⟩,.slice (some ⟨w.heap.size+1,0,none⟩) 1 1] 40):=⟨_,rfl⟩
 have b1:Below w.heap.size w V1:=by rw[e1];exact (Below.refl _ _).alloc (Nat.le_refl _) _
 have b2:Below V1.heap.size V1 V2:=by rw[e2];exact (Below.refl _ _).alloc (Nat.le_refl _) _
 have b3:Below V2.heap.size V2 V3:=by rw[e3];exact (Below.refl _ _).alloc (Nat.le_refl _) _
 have s1:V1.heap.size=w.heap.size+1:=by rw[e1];simp
 have s2:V2.heap.size=w.heap.size+1+1:=by rw[e2];simp[s1]
 have b23:=b2.trans (b3.mono b2.size)
 have b13:=b1.trans (b23.mono b1.size)
 have r1:RdF V3 V3.heap.size (some ⟨w.heap.size,0,none⟩) 1 1 [wA]:=(show RdF V1 V1.heap.size (some ⟨w.heap.size,0,none⟩) 1 1 [wA] by rw[e1];exact aUq w [wA] _ rfl (by decide)).to b23 b23.size
 have r2:RdF V3 V3.heap.size (some ⟨w.heap.size+1,0,none⟩) 1 1 [wB]:=(show RdF V2 V2.heap.size (some ⟨w.heap.size+1,0,none⟩) 1 1 [wB] by rw[e2,<-s1];exact aUq V1 [wB] _ rfl (by decide)).to b3 b3.size
 have r3:RdFl V3 V3.heap.size (some ⟨w.heap.size+1+1,0,none⟩) 3 3 (awakeV w.heap.size):=by
  refine ⟨?_,rfl,fun f hf=>?_⟩
  ·rw[e3,<-s2]
   exact aOx (heap_alloc_new V2 _) rfl rfl
  simp only[awakeV,List.mem_cons,List.mem_nil_iff,or_false] at hf
  rcases hf with rfl | rfl | rfl
  ·exact ⟨RdF.none_ _ _,Nat.zero_le _,(show I64 (-1) from ⟨by decide,by decide⟩),Nat.zero_le _⟩
  ·exact ⟨r1,(show 1<=17592186044416 by decide),(show I64 0 from ⟨by decide,by decide⟩),(show 1<=140737488351232 by decide)⟩
  exact ⟨r2,(show 1<=17592186044416 by decide),(show I64 0 from ⟨by decide,by decide⟩),Nat.zero_le _⟩
 obtain ⟨fs,hfs,hre⟩:=aPg
 have K:=aNn (l:=awakeV w.heap.size) (ms:=[]) (sl:=[]) (source:=1) (dest:=2) (hm.to b13) (show 3<=64 by decide) (Nat.zero_le _) (Nat.zero_le _) r3 (RdM.none_ _ _) (RdS.none_ _ _)
 rw[show (awakeV w.heap.size).map FLV.pl=awakeL from rfl,List.map_nil,hre] at K
 replace K:Calls Tryz.prog 13 #[.slice (some ⟨w.heap.size+1+1,0,none⟩) 3 3,.slice none 0 0,.int .i64 1,.int .i64 2,.slice none 0 0] V3 (MovedIs [] 0 (⟨[⟨2,⟨#[97]⟩,fs⟩],[(1,[3])],-1,[],[]⟩,0) V3):=K
 have HB:=hid b13
 have E3:=hid (show V3=((w.alloc (.cells #[.string ⟨#[97]⟩,.bool false,.string ⟨#[]⟩] 48)).alloc (.cells #[.string ⟨#[98]⟩,.bool false,.string ⟨#[]⟩] 48)).alloc (.cells #[.int .i64 (-1),.string ⟨#[]⟩,.slice none 0 0,.int .i64 0,.string ⟨#[97]⟩,.slice (some ⟨w.heap.size,0,none⟩) 1 1,.int .i64 0,.string ⟨#[]⟩,.slice (some ⟨w.heap.size+1,0,none⟩) 1 1] 40) by rw[e3,e2,e1])
 have HFS:=hid hfs
 clear b1 b2 b3 s1 s2 b23 b13 r1 r2 r3 e1 e2 e3 hre hfs
 rw[E3.out] at K
 go_enter Tryz.func10,Tryz.ntmps10
 go_wp2_with fail
 refine K.mono ?_
 rintro e w1 ⟨hb1,AN,AK,AF,AC,cn,ck,cf,cc,nl,kl,h6,h7,rfl,rn,_,_,_,_⟩
 obtain ⟨g,rfl,hg⟩:∃g,nl=[g]/\g.pl=⟨2,⟨#[97]⟩,fs⟩:=by
  cases nl with
  | nil=>exact absurd (congrArg List.length h6) (by simp)
  | cons g t=>
   cases t with
   | nil=>exact ⟨g,rfl,by injection h6⟩
   | cons _ _=>exact absurd (congrArg List.length h6) (by simp)
 obtain ⟨gp,gm,gA,gc,gf⟩:=g
 simp only[FLV.pl,FL.mk.injEq] at hg
 obtain ⟨rfl,rfl,rfl⟩:=hg
 obtain ⟨b0,o0,f,eA,hbb,hx,hfm,g0,g1,g2⟩:=rn.get (k:=0) (show 0<1 by decide)
 injection hx with hx
 subst hx eA
 have hl:gf.length=2:=HFS.out
 have HBB:=hid (HB.out.trans (by rw[<-E3.out] at hb1;exact hb1.mono HB.out.size))
 rw[Nat.zero_mul,Nat.add_zero] at g0 g1 g2
 simp only[hl] at g2
 clear K hb1 h1 h2 h3 h4 h5 E3 HB h6 h7 rn hfm HFS
 dsimp only[List.length_cons,List.length_nil]
 go_wp2
 go_ret
 exact ⟨rfl,HBB.out.alloc HBB.out.size _⟩
theorem aIo {l:List FL}{ms:List MV}{source dest:Int}{s:List SettL}(h:argsOk l ms source dest=false):(rebaseF l ms source dest s).2=1:=by
 unfold rebaseF;rw[if_pos h]
theorem aKi {l:List FL}{ms:List MV}{source dest:Int}(h:source<0\/(l.length:Int)<=source):argsOk l ms source dest=false:=by
 unfold argsOk
 have:(decide (0<=source) && decide (source<(l.length:Int)))=false:=by
  rcases h with h | h
  ·rw[decide_eq_false (by omega)];rfl
  rw[decide_eq_false (by omega:¬source<(l.length:Int)),Bool.and_false]
 rw[this,Bool.and_false];rfl
theorem aRh {l:List FL}{ms:List MV}{source dest:Int}(h:dest < -1\/(l.length:Int)<=dest):argsOk l ms source dest=false:=by
 unfold argsOk
 have:(decide (-1<=dest) && decide (dest<(l.length:Int)))=false:=by
  rcases h with h | h
  ·rw[decide_eq_false (by omega)];rfl
  rw[decide_eq_false (by omega:¬dest<(l.length:Int)),Bool.and_false]
 rw[this,Bool.and_false]
theorem aUm {l:List FL}{ms:List MV}{source dest:Int}(h:obsM ms source=true):argsOk l ms source dest=false:=by
 unfold argsOk
 rw[h,Bool.not_true,Bool.and_false];rfl
theorem aYs {l:List FL}{ms:List MV}{source dest:Int}(hr:rightL l ms=true)(h0:0<=source)(h1:source<l.length)(ho:obsM ms source=false)(h2:-1<=dest)(h3:dest<l.length):argsOk l ms source dest=true:=by
 unfold argsOk
 rw[hr,ho,decide_eq_true h0,decide_eq_true h1,decide_eq_true h2,decide_eq_true h3];rfl
theorem bBq {l:List FL}{ms:List MV}{source:Int}{s:List SettL}(hr:rightL l ms=true)(h0:0<=source)(h1:source<l.length)(ho:obsM ms source=false):(rebaseF l ms source source s).2=23:=by
 have hp:rightP (parF l)=true:=by unfold rightL at hr;simp only[Bool.and_eq_true] at hr;exact hr.1.1
 have hl:(parF l).length=l.length:=by unfold parF;simp
 unfold rebaseF
 rw[if_neg (by rw[aYs hr h0 h1 ho (by omega) h1];decide)]
 unfold allF
 rw[if_pos (by rw[aLw hp h0 (Int.le_refl _) (by rw[hl];exact h1)];exact decide_eq_true rfl)];rfl
theorem aXw {l:List FL}{ms:List MV}{source:Int}{s:List SettL}(hr:rightL l ms=true)(h0:0<=source)(h1:source<l.length)(ho:obsM ms source=false):(rebaseF l ms source (par (parF l) source) s).2=14:=by
 have hp:rightP (parF l)=true:=by unfold rightL at hr;simp only[Bool.and_eq_true] at hr;exact hr.1.1
 have hl:(parF l).length=l.length:=by unfold parF;simp
 obtain ⟨p1,p2⟩:=aBt hp h0 (by rw[hl];exact h1)
 unfold rebaseF
 rw[if_neg (by rw[aYs hr h0 h1 ho p1 (by omega)];decide)]
 unfold allF
 have ha:above (parF l) source (par (parF l) source)=false:=by
  by_cases hn:0<=par (parF l) source
  ·rw[aLw hp h0 (by omega) (by rw[hl];omega)];exact decide_eq_false (by omega)
  exact aLq (by omega)
 rw[if_neg (by rw[ha];decide),if_pos rfl];rfl
theorem aSy {l:List FL}{n k:Nat}{f:FL}(h:(playFl l n)[k]? = some f):-1<=f.parent/\f.parent<k/\∃x:List FV,f.files=playF x:=by
 unfold playFl at h
 rw[List.getElem?_mapIdx] at h
 obtain ⟨x,_,rfl⟩:=Option.map_eq_some_iff.1 h
 exact ⟨(aIg _ _).1,(aIg _ _).2,x.files,rfl⟩
theorem aXh {l:List FL}{n N:Nat}{ms:List MV}(hN:(playFl l n).length=N)(hm:rightM (N:Int) ms=true):rightL (playFl l n) ms=true:=by
 unfold rightL
 rw[hN,hm,Bool.and_true,Bool.and_eq_true]
 constructor
 ·refine aNm fun i p hp=>?_
  unfold parF at hp
  rw[List.getElem?_map] at hp
  obtain ⟨f,hf,rfl⟩:=Option.map_eq_some_iff.1 hp
  exact ⟨(aSy hf).1,(aSy hf).2.1⟩
 rw[List.all_eq_true]
 intro f hf
 obtain ⟨k,hk⟩:=List.getElem?_of_mem hf
 obtain ⟨x,hx⟩:=(aSy hk).2.2
 rw[hx];exact bDm x
def RebIs (k:Int)(w:World)(e:Ending) (w':World):Prop:=
 Below w.heap.size w w'/\∃(A1 A2 A3 A4:Option Addr) (n1 c1 n2 c2 n3 c3 n4 c4:Nat) (x:Int),e=.returned (.tuple #[.agg #[.slice A1 n1 c1,.slice A2 n2 c2,.int .i64 x,.slice A3 n3 c3,.slice A4 n4 c4],.int .i64 k])
theorem MovedIs.reb {r:MR×Int} {w w':World}{e:Ending}(h:MovedIs [] 0 r w e w'):RebIs r.2 w e w':=by
 obtain ⟨hb,AN,AK,AF,AC,cn,ck,cf,cc,nl,kl,_,_,h3,_⟩:=h
 exact ⟨hb,AN,AK,AF,AC,_,cn,_,ck,_,cf,_,cc,_,h3⟩
theorem aOp {l:List FLV}{nl:List FLV}(h:nl.map FLV.pl=playFl (l.map FLV.pl) 12):nl.length<=12:=by
 have:=congrArg List.length h
 rw[List.length_map] at this
 have:=aYg (l.map FLV.pl) 12
 omega
theorem aLe {w:World}{A AK:Option Addr}{c ck:Nat}{l:List FLV}{ms:List MV}{source dest:Int}(hL:Lm w)(hn:l.length<=17592186044416)(hm:ms.length<=17592186044416)
  (r1:RdFl w w.heap.size A l.length c l) (r2:RdM w w.heap.size AK ms.length ck ms) :
  Calls Tryz.prog 5 #[.slice A l.length c,.slice AK ms.length ck,.int .i64 source,.int .i64 dest] w (BoolBelow true w):=by
 have HR1:=hid r1
 have HR2:=hid r2
 have K0:=aYv (sl:=[]) hn hm (Nat.zero_le _) r1 r2 (RdS.none_ _ _)
 have HL:=hid hL
 have HAW:=hid (fun (u:World) (hu:Below w.heap.size w u)=>aTn (hL.to hu))
 clear r1 r2 hn hm hL
 go_enter Tryz.func5,Tryz.ntmps5
 go_wp2_with fail
 refine K0.mono ?_
 rintro e w0 ⟨b,rfl,rfl,hb⟩
 clear K0
 cases b with
 | false=>
  clear hb
  go_wp2_with fail
  refine (HAW.out _ (Below.refl _ _)).mono ?_
  rintro e w1 ⟨rfl,hb1⟩
  go_wp2
  go_ret
  exact ⟨rfl,hb1⟩
 | true=>
  obtain ⟨hl1,hl2,_⟩:=hb rfl
  clear hb
  have K1:=aNs hl1 HR1.out
  go_wp2_with fail
  refine K1.mono ?_
  rintro e w1 ⟨A1,c1,nl,rfl,hnl,r1,hb1⟩
  have hN:=aOp hnl
  have K2:=aSg (N:=nl.length) (by unfold maxLen;omega) (HR2.out.to hb1 hb1.size) (by omega)
  have HNL:=hid hnl
  have HF1:=hid r1
  have HB1:=hid hb1
  clear K1 hnl r1 hb1
  go_wp2_with fail
  refine K2.mono ?_
  rintro e w2 ⟨A2,c2,ms2,rfl,r2,hpl,hb2⟩
  have HF2:=hid (HF1.out.to hb2 hb2.size)
  have HK2:=hid r2
  have HB2:=hid (HB1.out.trans (hb2.mono HB1.out.size))
  have HRL:=hid (show rightL (nl.map FLV.pl) ms2=true by rw[HNL.out];exact aXh (N:=nl.length) (by rw[<-HNL.out,List.length_map]) hpl.right)
  have hml:=hpl.len
  clear K2 r2 hb2 hpl HF1 HB1
  by_cases hz:nl.length=0
  case pos=>
   go_wp2_with fail
   refine (HAW.out _ HB2.out).mono ?_
   rintro e w3 ⟨rfl,hb3⟩
   go_wp2
   go_ret
   exact ⟨rfl,HB2.out.trans (hb3.mono HB2.out.size)⟩
  obtain ⟨s,hs,hsN⟩:=aVe source (N:=nl.length) (by omega) (by omega)
  obtain ⟨k5,hk5,hk5N⟩:=aVe dest (N:=5) (by omega) (by omega)
  replace hk5:wrap64 ((IntKind.u64.wrap dest).tmod 5)=(k5:Int):=hk5
  have hw:=aTz (N:=nl.length) (by omega)
  obtain ⟨b0,o0,f,eA,hbb,hx,_,g0,_,_⟩:=HF2.out.get hsN
  subst eA
  have HG:=hid g0
  have HBB:=hid hbb
  have HPA:=hid (show par (parF (nl.map FLV.pl)) (s:Int)=f.parent by
   unfold par parF;rw[Int.toNat_natCast,List.map_map,List.getElem?_map,hx];rfl)
  have HKR:=hid (fun (u:World) (hu:Below w2.heap.size w2 u) (src dst:Int)=>(aNn (source:=src) (dest:=dst) (sl:=[]) (SA:=none) (sn:=0) (sc:=0) (HL.out.to (HB2.out.trans (hu.mono HB2.out.size))) (by omega) (by omega) (Nat.zero_le _) (HF2.out.to hu hu.size) (HK2.out.to hu hu.size) (RdS.none_ _ _)).mono fun _ _ h=>h.reb)
  have HKO:=hid (fun (u:World) (hu:Below w2.heap.size w2 u)=>bDg (x:=(s:Int)) (by unfold maxLen;omega) (HK2.out.to hu hu.size))
  have HAW2:=hid (fun (u:World) (hu:Below w2.heap.size w2 u)=>HAW.out u (HB2.out.trans (hu.mono HB2.out.size)))
  have HSN:=hid hsN
  clear hbb hx g0 HF2 HK2 hml
  go_wp2_with fail
  rw[hs]
  clear hs
  obtain ⟨ka,eka⟩:∃ka:Int,ka=if obsM ms2 s=true then 1 else 23:=⟨_,rfl⟩
  obtain ⟨kb,ekb⟩:∃kb:Int,kb=if obsM ms2 s=true then 1 else 14:=⟨_,rfl⟩
  have HL2:(nl.map FLV.pl).length=nl.length:=List.length_map ..
  have HA:=hid (show (rebaseF (nl.map FLV.pl) ms2 (s:Int) (s:Int) []).2=ka by
   rw[eka]
   cases ho:obsM ms2 s with
   | true=>rw[if_pos rfl];exact aIo (aUm ho)
   | false=>rw[if_neg (by decide)];exact bBq HRL.out (by omega) (by rw[HL2];omega) ho)
  have HB:=hid (show (rebaseF (nl.map FLV.pl) ms2 (s:Int) f.parent []).2=kb by
   rw[ekb,<-HPA.out]
   cases ho:obsM ms2 s with
   | true=>rw[if_pos rfl];exact aIo (aUm ho)
   | false=>rw[if_neg (by decide)];exact aXw HRL.out (by omega) (by rw[HL2];omega) ho)
  have HEK:=hid (And.intro eka ekb)
  have HLE:=hid HL2
  have HKC:=hid (fun (u:World) (hu:Below w2.heap.size w2 u) (src dst k:Int) (e:(rebaseF (nl.map FLV.pl) ms2 src dst []).2=k)=>(show Calls Tryz.prog 13 #[.slice (some ⟨b0,o0,none⟩) nl.length c1,.slice A2 ms2.length c2,.int .i64 src,.int .i64 dst,.slice none 0 0] u (RebIs k u) from e▸HKR.out u hu src dst))
  clear eka ekb HL2 HKR
  refine (HKC.out _ (Below.refl _ _) _ _ ka HA.out).mono ?_
  rintro e u1 ⟨hb1,X1,X2,X3,X4,n1,d1,n2,d2,n3,d3,n4,d4,x,rfl⟩
  have HD1:=hid hb1
  have g1:=fun o=>((HD1.out.alloc HD1.out.size o).cell (p:=⟨b0,o0+s*3,none⟩) HBB.out).trans HG.out
  clear hb1
  go_wp2_with fail
  refine (HKC.out _ (HD1.out.alloc HD1.out.size _) _ _ kb HB.out).mono ?_
  rintro e u2 ⟨hb2,X5,X6,X7,X8,n5,d5,n6,d6,n7,d7,n8,d8,x2,rfl⟩
  have HD2:=hid ((HD1.out.alloc HD1.out.size _).trans (hb2.mono (HD1.out.alloc HD1.out.size _).size))
  clear hb2 g1 HD1
  go_wp2_with fail
  refine (HKC.out _ (HD2.out.alloc HD2.out.size _) _ _ 1 (aIo (aKi (.inr (by rw[HLE.out];exact Int.le_refl _))))).mono ?_
  rintro e u3 ⟨hb3,Y1,Y2,Y3,Y4,m1,q1,m2,q2,m3,q3,m4,q4,y3,rfl⟩
  have HD3:=hid ((HD2.out.alloc HD2.out.size _).trans (hb3.mono (HD2.out.alloc HD2.out.size _).size))
  clear hb3 HD2
  go_wp2_with fail
  refine (HKC.out _ (HD3.out.alloc HD3.out.size _) _ _ 1 (aIo (aRh (.inr (by rw[HLE.out];exact Int.le_refl _))))).mono ?_
  rintro e u4 ⟨hb4,Y1,Y2,Y3,Y4,m1,q1,m2,q2,m3,q3,m4,q4,y4,rfl⟩
  have HD4:=hid ((HD3.out.alloc HD3.out.size _).trans (hb4.mono (HD3.out.alloc HD3.out.size _).size))
  clear hb4 HD3
  go_wp2_with fail
  refine (HKC.out _ (HD4.out.alloc HD4.out.size _) _ _ 1 (aIo (aKi (.inl (by decide))))).mono ?_
  rintro e u5 ⟨hb5,Y1,Y2,Y3,Y4,m1,q1,m2,q2,m3,q3,m4,q4,y5,rfl⟩
  have HD5:=hid ((HD4.out.alloc HD4.out.size _).trans (hb5.mono (HD4.out.alloc HD4.out.size _).size))
  clear hb5 HD4
  go_wp2_with fail
  rw[hk5]
  refine (HKC.out _ (HD5.out.alloc HD5.out.size _) _ _ 1 (aIo (aRh (.inl (by first | omega | (unfold wrap64;omega)))))).mono ?_
  rintro e u6 ⟨hb6,Y1,Y2,Y3,Y4,m1,q1,m2,q2,m3,q3,m4,q4,y6,rfl⟩
  have HD6:=hid ((HD5.out.alloc HD5.out.size _).trans (hb6.mono (HD5.out.alloc HD5.out.size _).size))
  clear hb6 HD5
  go_wp2_with fail
  refine (HKO.out _ (HD6.out.alloc HD6.out.size _)).mono ?_
  rintro e u7 ⟨rfl,hb7⟩
  have HD7:=hid ((HD6.out.alloc HD6.out.size _).trans (hb7.mono (HD6.out.alloc HD6.out.size _).size))
  clear hb7 HD6
  obtain ⟨eka,ekb⟩:=HEK.out
  cases ho:obsM ms2 s
  case' true=>
   rw[ho,if_pos rfl] at eka ekb
  case' false=>
   rw[ho,if_neg (by decide)] at eka ekb
  all_goals
   subst eka ekb
   clear ho
   go_wp2_with fail
   refine (HAW2.out _ HD7.out).mono ?_
   rintro e u8 ⟨rfl,hb8⟩
   have HD8:=hid (HB2.out.trans ((HD7.out.trans (hb8.mono HD7.out.size)).mono HB2.out.size))
   clear hb8 HD7
   go_wp2
   go_ret
   exact ⟨rfl,HD8.out⟩
end Go.Proofs.YtohblmepajhpaaaGreatDoor
namespace Go.Proofs.YtohblmepajhpaaaGreatDoor
open Go.ChangeShapes Go.WideShapes Go.ChangeAt Go.RowKit
def uAcc:List Int:=[128,191,160,191,128,159,144,191,128,143,0,0,0,0,0,0,0,0,0,0,0,0,0,0,0,0,0,0,0,0,0,0]
def T.cellsOf (cs:List Value):Obj->Obj
 | .cells _ t frozen=>.cells cs.toArray t frozen
 | o=>o
def uFirst:List Value:=Go.Pinned.utf8FirstZ.map fun (z:Nat)=>Value.int .u8 (Int.ofNat z)
noncomputable def laidU (os:Os):World:=
 { World.holding Tryz.prog os ⟨#[],#[],[]⟩ with heap:=((World.holding Tryz.prog os ⟨#[],#[],[]⟩).heap.modify 1 (T.cellsOf uFirst)).modify 2 (T.cellsOf (uAcc.map fun z=>.int .u8 z)) }
theorem T.list_of {α:Type}{P:Nat->α->Prop}:∀{n:Nat},(∀i,i<n->∃a,P i a)->∃l:List α,l.length=n/\∀i a,l[i]? = some a->P i a
 | 0,_=>⟨[],rfl,by simp⟩
 | n+1,h=>by
  obtain ⟨l,hl,hp⟩:=T.list_of (n:=n) fun i hi=>h i (by omega)
  obtain ⟨a,ha⟩:=h n (by omega)
  refine ⟨l++[a],by simp[hl],fun i x hx=>?_⟩
  rcases Nat.lt_or_ge i n with hi | hi
  ·rw[List.getElem?_append_left (by omega)] at hx;exact hp i x hx
  have hlt:=(List.getElem?_eq_some_iff.1 hx).1
  rw[List.length_append,List.length_singleton] at hlt
  obtain rfl:i=n:=by omega
  rw[List.getElem?_append_right (by omega),hl,Nat.sub_self] at hx
  obtain rfl:=Option.some.inj hx
  exact ha
theorem T.flat_get {α:Type}{f:α->List Value}{k:Nat}(hf:∀a,(f a).length=k)(hk:0<k):∀{l:List α}{j:Nat}{u:Value},(l.flatMap f)[j]? = some u->∃a,l[j / k]? = some a/\(f a)[j % k]? = some u
 | [],j,u,h=>by simp at h
 | x::l,j,u,h=>by
  rw[List.flatMap_cons] at h
  rcases Nat.lt_or_ge j k with hj | hj
  ·rw[List.getElem?_append_left (by rw[hf];exact hj)] at h
   exact ⟨x,by rw[Nat.div_eq_of_lt hj];rfl,by rw[Nat.mod_eq_of_lt hj];exact h⟩
  rw[List.getElem?_append_right (by rw[hf];exact hj),hf] at h
  obtain ⟨a,h1,h2⟩:=T.flat_get hf hk h
  refine ⟨a,?_,?_⟩
  ·rw[Nat.div_eq_sub_div hk hj,List.getElem?_cons_succ];exact h1
  rw[Nat.mod_eq_sub_mod hj];exact h2
theorem T.rd_elems {W:World}{a:Addr}{len cap sz:Nat} {α:Type}{f:α->List Value}{es:List α}(hf:∀x,(f x).length=sz)(hsz:0<sz)(hl:es.length=len)(hcap:len<=cap)
  (hb:0<len->a.block<W.heap.size) (hcell:∀i e,es[i]? = some e->∀t u,(f e)[t]? = some u->W.cell? ((a.add (i*sz)).add t)=some u):Rd W W.heap.size sz (some a) len cap (es.flatMap f):=by
 refine ⟨by rw[len_flat hf,hl],hcap,fun hn=>?_⟩
 obtain ⟨b,off,spot⟩:=a
 have hspot:spot=none:=by
  have h0:=hcell 0 (es[0]'(by omega)) (List.getElem?_eq_getElem _) 0 ((f (es[0]'(by omega)))[0]'(by rw[hf];exact hsz)) (List.getElem?_eq_getElem _)
  simpa[Addr.add] using World.cell?_spot h0
 subst hspot
 refine ⟨b,off,rfl,hb hn,fun j u hu=>?_⟩
 obtain ⟨x,h1,h2⟩:=T.flat_get hf hsz hu
 have:=hcell _ x h1 _ u h2
 rw[add_plain,add_plain] at this
 rw[show off+j=off+j / sz*sz+j % sz by rw[Nat.add_assoc,Nat.mul_comm (j / sz) sz,Nat.div_add_mod]]
 exact this
section
variable {H:Type} {enc:TypeId×Value->H} {W:World}
theorem T.weights_mem_all {P:Program}{e:TypeId}:∀{ds:List (DataW H)}{d:DataW H},d∈ds->∀n∈d.weights P e,n∈DataW.weightsAll P e ds
 | d0::ds,d,hd,n,hn=>by
  simp only[DataW.weightsAll,List.mem_append]
  rcases List.mem_cons.1 hd with rfl | hd
  ·exact .inl hn
  exact .inr (T.weights_mem_all hd n hn)
 | [],_,hd,_,_=>by cases hd
def Opens (enc:TypeId×Value->H)(W:World)(t:TypeId)(E:List Value->Prop):Prop:=
 ∀fuel cs x,DataW.trod enc Tryz.prog W 0 (fun _=>true) true fuel t cs=some x->(∀n∈DataW.weights Tryz.prog t x.1,n<=reachBytes)->E cs
theorem Opens.mono {t:TypeId} {E E':List Value->Prop}(h:Opens enc W t E)(hE:∀cs,E cs->E' cs):Opens enc W t E':=fun fuel cs x h1 h2=>hE _ (h fuel cs x h1 h2)
theorem aEo {t:TypeId}(ht:Tryz.prog.underlying t=some (.int .i64)):Opens enc W t fun cs=>∃k:Int,cs=[.int .i64 k]/\-9223372036854775808<=k/\k<=9223372036854775807:=by
 intro fuel cs x h _
 obtain ⟨k,rfl,_,hw⟩:=DataW.trod_int ht h
 simp only[Lit.wf,Bool.and_eq_true,decide_eq_true_eq] at hw
 have e1:IntKind.i64.min=-9223372036854775808:=by decide
 have e2:IntKind.i64.max=9223372036854775807:=by decide
 rw[e1,e2] at hw
 exact ⟨k,rfl,hw⟩
theorem aXk {t:TypeId}(ht:Tryz.prog.underlying t=some .bool):Opens enc W t fun cs=>∃b:Bool,cs=[.bool b]:=by
 intro fuel cs x h _
 obtain ⟨b,rfl,_⟩:=DataW.trod_bool ht h
 exact ⟨b,rfl⟩
theorem aLa {t:TypeId}(ht:Tryz.prog.underlying t=some .string):Opens enc W t fun cs=>∃s:ByteArray,cs=[.string s]/\s.size<=140737488351232:=by
 intro fuel cs x h hw
 obtain ⟨s,rfl,rfl,_⟩:=DataW.trod_string ht h
 have h1:=hw s.data.toList.length (by simp[DataW.weights])
 have h3:s.data.toList.length=s.size:=rfl
 simp only[reachBytes] at h1
 exact ⟨s,rfl,by omega⟩
theorem aEr {t:TypeId}{fs:Array Field}{E:Nat->List Value->Prop}(ht:Tryz.prog.underlying t=some (.struct fs))(hE:∀(i:Nat)(f:Field),fs[i]? = some f->Opens enc W f.type (E i)) :
  Opens enc W t fun cs=>cs.length=Tryz.prog.cellsOf t/\∀(i:Nat) (f:Field),fs[i]? = some f->E i ((cs.drop f.offset).take (Tryz.prog.cellsOf f.type)):=by
 intro fuel cs x h hw
 obtain ⟨xs,n,rfl,rfl,hl,hlen,hf⟩:=DataW.trod_struct ht h
 refine ⟨hl,fun i f hi=>?_⟩
 have hlt:i<fs.size:=(Array.getElem?_eq_some_iff.1 hi).1
 have h1:=hf i f hi
 rw[List.getElem?_eq_getElem (by omega:i<xs.length)] at h1
 refine hE i f hi _ _ _ h1 fun m hm=>hw m ?_
 simp only[DataW.weights,ht]
 refine DataW.weights_mem_each (j:=i) (t:=f.type) (d:=xs[i].1) ?_ ?_ m hm
 ·simp[hi]
 rw[List.getElem?_map,List.getElem?_eq_getElem (by omega:i<xs.length)];rfl
theorem aDz {α:Type}{f:α->List Value}{Q:α->Prop}{t e:TypeId}{sz bytes:Nat}(ht:Tryz.prog.underlying t=some (.slice e))(hc:Tryz.prog.cellsOf e=sz)(hb:Tryz.prog.bytesOf e=bytes)(hf:∀a,(f a).length=sz)(h0:0<sz)
  (hE:Opens enc W e fun cs=>∃a,cs=f a/\Q a) :
  Opens enc W t fun cs=>∃(A:Option Addr) (n c:Nat) (es:List α),cs=[.slice A n c]/\es.length=n/\Rd W W.heap.size sz A n c (es.flatMap f)/\(∀a∈es,Q a)/\n*bytes<=140737488351232:=by
 intro fuel cs x h hw
 rcases DataW.trod_slice ht h with ⟨rfl,_⟩ | ⟨a,len,cap,elems,rest,n,_,rfl,rfl,_,hl,_,hlen,hel,_,_⟩
 ·exact ⟨none,0,0,[],rfl,rfl,Rd.none_ _ _ _,by simp,by omega⟩
 rw[hc] at hel
 simp only[DataW.weights,ht,hb,List.mem_cons,List.mem_append] at hw
 have hlen2:len*bytes<=140737488351232:=by
  have:=hw _ (.inl rfl)
  simp only[List.length_map,hlen,reachBytes] at this
  have h2:len*bytes<=(len+rest.length)*bytes:=Nat.mul_le_mul_right _ (by omega)
  omega
 have each:∀i,i<len->∃e:α,((∀t u,(f e)[t]? = some u->W.cell? ((a.add (i*sz)).add t)=some u)/\(a.add (i*sz)).block<W.heap.size)/\Q e:=by
  intro i hi
  have h1:=hel i hi
  have hmem:=List.getElem_mem (by omega:i<elems.length)
  rw[List.getElem?_eq_getElem (by omega:i<elems.length),Option.bind_eq_some_iff] at h1
  obtain ⟨cs,hcs,htr⟩:=h1
  obtain ⟨_,hl2,hcell⟩:=World.cells?_some hcs
  have hblk:=World.cells?_block hcs h0
  obtain ⟨q,rfl,hq⟩:=hE _ _ _ htr fun n hn=>hw n (.inr (.inl (T.weights_mem_all (List.mem_map.2 ⟨_,hmem,rfl⟩) n hn)))
  refine ⟨q,⟨fun t u hu=>?_,hblk⟩,hq⟩
  have ht:t<sz:=by rw[<-hf q];exact (List.getElem?_eq_some_iff.1 hu).1
  rw[hcell t ht];exact hu
 obtain ⟨es,hes,hp⟩:=T.list_of each
 refine ⟨_,_,_,es,rfl,hes,T.rd_elems hf h0 hes hl (fun h0=>?_) (fun i e he=>(hp i e he).1.1),fun x hx=>?_,hlen2⟩
 ·have:=(hp 0 (es[0]'(by omega)) (List.getElem?_eq_getElem _)).1.2
  rwa [bAc] at this
 obtain ⟨i,hi,rfl⟩:=List.getElem_of_mem hx
 exact (hp i _ (List.getElem?_eq_getElem hi)).2
theorem aJn {t:TypeId}{E:List Value->Prop}(O:Opens enc W t E){ts:List TypeId}{ds:List (DataW H)}{v:Value}{d:DataW H}{ps:List MemPlace}{j:Nat}
  (hsz:(DataW.weightsEach Tryz.prog ts ds).all (·<=reachBytes)=true) (ht:ts[j]? = some t) (hd:ds[j]? = some d) (h:DataW.Trod enc Tryz.prog W 0 (fun _=>true) true t v d ps):E v.cells.toList:=by
 obtain ⟨fuel,hf⟩:=h
 refine O fuel _ _ hf fun n hn=>?_
 have:=List.all_eq_true.1 hsz _ (DataW.weights_mem_each ht hd n hn)
 simpa using this
end
section
variable {H:Type} {enc:TypeId×Value->H} {W:World}
def FileCells (cs:List Value):Prop:=∃f:FV,cs=f.cells/\f.path.size<=140737488351232/\f.text.size<=140737488351232
theorem aVy:Opens enc W 48 FileCells:=by
 refine (aEr (E:=fun i=>match i with | 0=>fun cs=>∃s:ByteArray,cs=[.string s]/\s.size<=140737488351232 | 1=>fun cs=>∃b:Bool,cs=[.bool b] | _=>fun cs=>∃s:ByteArray,cs=[.string s]/\s.size<=140737488351232) Tryz.underlying48 ?_).mono ?_
 ·intro i f hf
  rcases i with _ | _ | _ | i<;>simp at hf
  ·subst hf;exact aLa Tryz.underlying9
  ·subst hf;exact aXk Tryz.underlying4
  subst hf;exact aLa Tryz.underlying9
 rintro cs ⟨hl,h⟩
 have hl3:cs.length=3:=hl
 match cs,hl3 with
 | [a,b,c],_=>
  obtain ⟨p,e1,h1⟩:=h 0 _ rfl
  obtain ⟨x,e2⟩:=h 1 _ rfl
  obtain ⟨t,e3,h3⟩:=h 2 _ rfl
  have e1':[a]=[Value.string p]:=e1
  have e2':[b]=[Value.bool x]:=e2
  have e3':[c]=[Value.string t]:=e3
  cases e1'
  cases e2'
  cases e3'
  exact ⟨⟨p,x,t⟩,rfl,h1,h3⟩
def FilesCells (W:World)(cs:List Value):Prop:=∃(A:Option Addr) (c:Nat) (l:List FV),cs=[.slice A l.length c]/\RdF W W.heap.size A l.length c l/\l.length<=17592186044416
theorem aTk:Opens enc W 29 (FilesCells W):=by
 refine (aDz (f:=FV.cells) (Q:=fun f=>f.path.size<=140737488351232/\f.text.size<=140737488351232) Tryz.underlying29 (by kernel_rfl) (bytes:=40) (by kernel_rfl) FV.cells_len (by omega) (aVy.mono ?_)).mono ?_
 ·rintro cs ⟨f,h1,h2,h3⟩;exact ⟨f,h1,h2,h3⟩
 rintro cs ⟨A,n,c,es,rfl,rfl,hr,hq,hb⟩
 exact ⟨A,c,es,rfl,⟨hr,rfl,hq⟩,by omega⟩
end
theorem aPs {H:Type}{enc:TypeId×Value->H}{P:Program}{w:World}{base:Nat}{spare:Nat->Bool}{held:Bool}{t0 t1 t2 t3:TypeId}{args:Array Value}{ds:List (DataW H)}{ps:List MemPlace}
  (h:DataW.TrodAll enc P w base spare held [t0,t1,t2,t3] args.toList ds ps) :
  ∃v0 v1 v2 v3 d0 d1 d2 d3 p0 p1 p2 p3,args=#[v0,v1,v2,v3]/\ds=[d0,d1,d2,d3]/\ps=p0++(p1++(p2++p3))/\
   DataW.Trod enc P w base spare held t0 v0 d0 p0/\DataW.Trod enc P w base spare held t1 v1 d1 p1/\DataW.Trod enc P w base spare held t2 v2 d2 p2/\DataW.Trod enc P w base spare held t3 v3 d3 p3:=by
 obtain ⟨v0,vs,d0,ds',p0,q,e,rfl,rfl,h0,h⟩:=trodAll_cons h
 obtain ⟨v1,vs,d1,ds',p1,q,rfl,rfl,rfl,h1,h⟩:=trodAll_cons h
 obtain ⟨v2,vs,d2,ds',p2,q,rfl,rfl,rfl,h2,h⟩:=trodAll_cons h
 obtain ⟨v3,vs,d3,ds',p3,q,rfl,rfl,rfl,h3,h⟩:=trodAll_cons h
 obtain ⟨rfl,rfl,rfl⟩:=trodAll_nil h
 exact ⟨v0,v1,v2,v3,d0,d1,d2,d3,p0,p1,p2,p3,Array.ext' e,rfl,by simp,h0,h1,h2,h3⟩
section
variable {H:Type} {enc:TypeId×Value->H} {W:World}
theorem bCd (l:List Int):(l.flatMap fun x=>[Value.int .i64 x])=l.map (.int .i64):=by
 induction l with
 | nil=>rfl
 | cons x l ih=>rw[List.flatMap_cons,ih];rfl
theorem aYm:Opens enc W 36 fun cs=>∃(A:Option Addr)(c:Nat)(l:List Int),cs=[.slice A l.length c]/\Rd W W.heap.size 1 A l.length c (l.map (.int .i64))/\l.length<=17592186044416/\∀x∈l,I64 x:=by
 refine (aDz (sz:=1) (f:=fun x:Int=>[Value.int .i64 x]) (Q:=I64) Tryz.underlying36 (by kernel_rfl) (bytes:=8) (by kernel_rfl) (fun _=>rfl) (by omega) ((aEo Tryz.underlying3).mono ?_)).mono ?_
 ·rintro cs ⟨x,h1,h2⟩;exact ⟨x,h1,h2⟩
 rintro cs ⟨A,n,c,es,rfl,rfl,hr,hq,hb⟩
 exact ⟨A,c,es,rfl,by rw[bCd] at hr;exact hr,by omega,hq⟩
theorem aWt:Opens enc W 40 fun cs=>∃f:FLV,cs=f.cells/\RdF W W.heap.size f.A f.files.length f.c f.files/\f.files.length<=17592186044416/\I64 f.parent/\f.msg.size<=140737488351232:=by
 refine (aEr (E:=fun i=>match i with | 0=>fun cs=>∃k:Int,cs=[.int .i64 k]/\-9223372036854775808<=k/\k<=9223372036854775807 | 1=>fun cs=>∃s:ByteArray,cs=[.string s]/\s.size<=140737488351232 | _=>FilesCells W) Tryz.underlying40 ?_).mono ?_
 ·intro i f hf
  rcases i with _ | _ | _ | i<;>simp at hf
  ·subst hf;exact aEo Tryz.underlying3
  ·subst hf;exact aLa Tryz.underlying9
  subst hf;exact aTk
 rintro cs ⟨hl,h⟩
 have hl2:cs.length=3:=hl
 match cs,hl2 with
 | [c0,c1,c2],_=>
  obtain ⟨a,z0,h0⟩:=h 0 _ rfl
  obtain ⟨s,z1,h1⟩:=h 1 _ rfl
  obtain ⟨A,c,l,z2,h3,h4⟩:=h 2 _ rfl
  have e0:[c0]=[Value.int .i64 a]:=z0
  have e1:[c1]=[Value.string s]:=z1
  have e2:[c2]=[Value.slice A l.length c]:=z2
  cases e0
  cases e1
  cases e2
  exact ⟨⟨a,s,A,c,l⟩,rfl,h3,h4,h0,h1⟩
theorem aSj:Opens enc W 22 fun cs=>∃(A:Option Addr)(c:Nat)(l:List FLV),cs=[.slice A l.length c]/\RdFl W W.heap.size A l.length c l/\l.length<=17592186044416:=by
 refine (aDz (f:=FLV.cells) (Q:=fun f=>RdF W W.heap.size f.A f.files.length f.c f.files/\f.files.length<=17592186044416/\I64 f.parent/\f.msg.size<=140737488351232) Tryz.underlying22 (by kernel_rfl) (bytes:=48) (by kernel_rfl) FLV.cells_len (by omega) (aWt.mono ?_)).mono ?_
 ·rintro cs ⟨f,h⟩;exact ⟨f,h⟩
 rintro cs ⟨A,n,c,es,rfl,rfl,hr,hq,hb⟩
 exact ⟨A,c,es,rfl,⟨hr,rfl,hq⟩,by omega⟩
theorem aPk:Opens enc W 43 fun cs=>∃m:MV,cs=m.cells/\Rd W W.heap.size 1 m.A m.new.length m.c (m.new.map (.int .i64))/\m.new.length<=17592186044416/\I64 m.old/\∀x∈m.new,I64 x:=by
 refine (aEr (E:=fun i=>match i with | 0=>fun cs=>∃k:Int,cs=[.int .i64 k]/\-9223372036854775808<=k/\k<=9223372036854775807 | _=>fun cs=>∃(A:Option Addr) (c:Nat) (l:List Int),cs=[.slice A l.length c]/\Rd W W.heap.size 1 A l.length c (l.map (.int .i64))/\l.length<=17592186044416/\∀x∈l,I64 x) Tryz.underlying43 ?_).mono ?_
 ·intro i f hf
  rcases i with _ | _ | i<;>simp at hf
  ·subst hf;exact aEo Tryz.underlying3
  subst hf;exact aYm
 rintro cs ⟨hl,h⟩
 have hl2:cs.length=2:=hl
 match cs,hl2 with
 | [c0,c1],_=>
  obtain ⟨a,z0,h0⟩:=h 0 _ rfl
  obtain ⟨A,c,l,z1,h1,h2,h3⟩:=h 1 _ rfl
  have e0:[c0]=[Value.int .i64 a]:=z0
  have e1:[c1]=[Value.slice A l.length c]:=z1
  cases e0
  cases e1
  exact ⟨⟨a,A,c,l⟩,rfl,h1,h2,h0,h3⟩
theorem aNt:Opens enc W 23 fun cs=>∃(A:Option Addr)(c:Nat)(l:List MV),cs=[.slice A l.length c]/\RdM W W.heap.size A l.length c l/\l.length<=17592186044416:=by
 refine (aDz (f:=MV.cells) (Q:=fun m=>Rd W W.heap.size 1 m.A m.new.length m.c (m.new.map (.int .i64))/\m.new.length<=17592186044416/\I64 m.old/\∀x∈m.new,I64 x) Tryz.underlying23 (by kernel_rfl) (bytes:=32) (by kernel_rfl) MV.cells_len (by omega) (aPk.mono ?_)).mono ?_
 ·rintro cs ⟨f,h⟩;exact ⟨f,h⟩
 rintro cs ⟨A,n,c,es,rfl,rfl,hr,hq,hb⟩
 exact ⟨A,c,es,rfl,⟨hr,rfl,hq⟩,by omega⟩
end
end Go.Proofs.YtohblmepajhpaaaGreatDoor
