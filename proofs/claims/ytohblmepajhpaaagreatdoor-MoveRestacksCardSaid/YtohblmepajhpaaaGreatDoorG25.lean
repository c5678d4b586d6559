/- Contracts of functions that the law reaches, and plain laws of what they compute. -/
import Derived.Maps.OwnSet
import Derived.DeepKeys4
import Derived.Test.YtohblmepajhpaaaGreatDoorG01
import Derived.Test.YtohblmepajhpaaaGreatDoorG06
import Derived.Test.YtohblmepajhpaaaGreatDoorG07
import Derived.Test.YtohblmepajhpaaaGreatDoorG11
import Derived.Test.YtohblmepajhpaaaGreatDoorG14
import Derived.Test.YtohblmepajhpaaaGreatDoorG24
set_option maxHeartbeats 8000000
set_option maxRecDepth 100000
open Go.Lib (hid)
namespace Go.Proofs.YtohblmepajhpaaaGreatDoor
open Go.RowKit
def wA:FV:=⟨⟨#[97]⟩,false,⟨#[]⟩⟩
theorem okWA:FileOk wA:=⟨by decide +kernel,by decide +kernel⟩
def awakeL:List FL:=[⟨-1,⟨#[]⟩,[]⟩,⟨0,⟨#[97]⟩,[wA]⟩,⟨0,⟨#[]⟩,[wB]⟩]
theorem aRf:∃fs:List FV,fs.length=2/\rebaseF awakeL [] 1 2 []=(⟨[⟨2,⟨#[97]⟩,fs⟩],[(1,[3])],-1,[],[]⟩,0):=by
 obtain ⟨h1,h2⟩:=bFu okWB okWA (by decide +kernel)
 refine ⟨(treemergeF [] [wB] [wA]).1,h1,?_⟩
 have hp:parF awakeL=[-1,0,0]:=rfl
 have ha:argsOk awakeL [] 1 2=true:=by
  have hr:rightL awakeL []=true:=by
   unfold rightL
   rw[hp]
   simp only[awakeL,List.all_cons,List.all_nil,aDg,aEw okWA,aEw okWB]
   decide +kernel
  unfold argsOk
  rw[hr]
  decide +kernel
 have hm:mergedOn awakeL [] 1 2=treemergeF [] [wB] [wA]:=rfl
 have ho:oneOn [] awakeL 1 2=.ok (awakeL++[⟨2,⟨#[97]⟩,(treemergeF [] [wB] [wA]).1⟩]):=by
  unfold oneOn
  rw[hm,h2,if_neg (by decide),if_neg (fun h=>h rfl),if_neg (by decide +kernel)]
  rfl
 have hv:moved (parF awakeL) [] 1=[1]:=by rw[hp];decide +kernel
 have hb:above (parF awakeL) 1 2=false:=by rw[hp];decide +kernel
 have hq:par (parF awakeL) 1=0:=by rw[hp];decide +kernel
 have hall:allF [] [1] awakeL 1 2=.ok (awakeL++[⟨2,⟨#[97]⟩,(treemergeF [] [wB] [wA]).1⟩],[(1,[3])]):=by
  unfold allF
  rw[if_neg (by rw[hb];decide),if_neg (by rw[hq];decide),runF',hq,show nowF [] 2 0=2 from rfl,ho]
  rfl
 unfold rebaseF
 rw[if_neg (by rw[ha];decide),hv,hall]
 rfl
theorem aQx (s:ByteArray)(w:World):(Instr.build 48 #[(0,.string s)]).run Tryz.prog w=.ok (.agg #[.string s,.bool false,.string ⟨#[]⟩]) w:=by
 go_simp
theorem bDp (p:Int)(w:World):(Instr.build 40 #[(0,.int .i64 p)]).run Tryz.prog w=.ok (.agg #[.int .i64 p,.string ⟨#[]⟩,.slice none 0 0]) w:=by
 go_simp
theorem aVu (p:Int)(m:ByteArray)(A:Option Addr)(n c:Nat)(w:World):(Instr.build 40 #[(0,.int .i64 p),(1,.string m),(2,.slice A n c)]).run Tryz.prog w=.ok (.agg #[.int .i64 p,.string m,.slice A n c]) w:=by
 go_simp
theorem aXp (w:World)(l:List FV)(xs:Array Value)(hx:xs.toList=l.flatMap FV.cells)(hf:∀f∈l,f.path.size<=140737488351232/\f.text.size<=140737488351232) :
  RdF (w.alloc (.cells xs 48)) (w.alloc (.cells xs 48)).heap.size (some ⟨w.heap.size,0,none⟩) l.length l.length l:=
 ⟨aOd (heap_alloc_new w _) (by rw[FV.len_flat]) (Nat.le_refl _) fun j u hu=>by rw[<-hx] at hu;simpa using hu,rfl,hf⟩
def awakeV (q:Nat):List FLV:=[⟨-1,⟨#[]⟩,none,0,[]⟩,⟨0,⟨#[97]⟩,some ⟨q,0,none⟩,1,[wA]⟩,⟨0,⟨#[]⟩,some ⟨q+1,0,none⟩,1,[wB]⟩]
theorem aWo {w:World}(hm:Lm w):Calls Tryz.prog 10 #[] w (BoolBelow true w):=by
 have h1:=fun u=>aQx ⟨#[97]⟩ u
 have h2:=fun u=>aQx ⟨#[98]⟩ u
 have h3:=fun u=>bDp (-1) u
 have h4:=aVu
 have h5:=aJy
 obtain ⟨V1,e1⟩:∃V,V=w.alloc (.cells #[.string ⟨#[97]⟩,.bool false,.string ⟨#[]⟩] 48):=⟨_,rfl⟩
 obtain ⟨V2,e2⟩:∃V,V=V1.alloc (.cells #[.string ⟨#[98]⟩,.bool false,.string ⟨#[]⟩] 48):=⟨_,rfl⟩
 obtain ⟨V3,e3⟩:∃V,V=V2.alloc (.cells #[.int .i64 (-1),.string ⟨#[]⟩,.slice none 0 0,.int .i64 0,.string ⟨#[97]⟩,.slice (some ⟨w.heap.size,0,none⟩) 1 1,.int .i64 0,.string ⟨#[]⟩,.slice (some ⟨w.heap.size+1,0,none⟩) 1 1] 40):=⟨_,rfl⟩
 have b1:Below w.heap.size w V1:=by rw[e1];exact (Below.refl _ _).alloc (Nat.le_refl _) _
 have b2:Below V1.heap.size V1 V2:=by rw[e2];exact (Below.refl _ _).alloc (Nat.le_refl _) _
 have b3:Below V2.heap.size V2 V3:=by rw[e3];exact (Below.refl _ _).alloc (Nat.le_refl _) _
 have s1:V1.heap.size=w.heap.size+1:=by rw[e1];simp
 have s2:V2.heap.size=w.heap.size+1+1:=by rw[e2];simp[s1]
 have b23:=b2.trans (b3.mono b2.size)
 have b13:=b1.trans (b23.mono b1.size)
 have r1:RdF V3 V3.heap.size (some ⟨w.heap.size,0,none⟩) 1 1 [wA]:=(show RdF V1 V1.heap.size (some ⟨w.heap.size,0,none⟩) 1 1 [wA] by rw[e1];exact aXp w [wA] _ rfl (by decide)).to b23 b23.size
 have r2:RdF V3 V3.heap.size (some ⟨w.heap.size+1,0,none⟩) 1 1 [wB]:=(show RdF V2 V2.heap.size (some ⟨w.heap.size+1,0,none⟩) 1 1 [wB] by rw[e2,<-s1];exact aXp V1 [wB] _ rfl (by decide)).to b3 b3.size
 have r3:RdFl V3 V3.heap.size (some ⟨w.heap.size+1+1,0,none⟩) 3 3 (awakeV w.heap.size):=by
  refine ⟨?_,rfl,fun f hf=>?_⟩
  ·rw[e3,<-s2]
   exact aQd (heap_alloc_new V2 _) rfl rfl
  simp only[awakeV,List.mem_cons,List.mem_nil_iff,or_false] at hf
  rcases hf with rfl | rfl | rfl
  ·exact ⟨RdF.none_ _ _,Nat.zero_le _,(show I64 (-1) from ⟨by decide,by decide⟩),Nat.zero_le _⟩
  ·exact ⟨r1,(show 1<=17592186044416 by decide),(show I64 0 from ⟨by decide,by decide⟩),(show 1<=140737488351232 by decide)⟩
  exact ⟨r2,(show 1<=17592186044416 by decide),(show I64 0 from ⟨by decide,by decide⟩),Nat.zero_le _⟩
 obtain ⟨fs,hfs,hre⟩:=aRf
 have K:=bBb (l:=awakeV w.heap.size) (ms:=[]) (sl:=[]) (source:=1) (dest:=2) (hm.to b13) (show 3<=64 by decide) (Nat.zero_le _) (Nat.zero_le _) r3 (RdM.none_ _ _) (RdS.none_ _ _)
 rw[show (awakeV w.heap.size).map FLV.pl=awakeL from rfl,List.map_nil,hre] at K
 replace K:Calls Tryz.prog 13 #[.slice (some ⟨w.heap.size+1+1,0,none⟩) 3 3,.slice none 0 0,.int .i64 1,.int .i64 2,.slice none 0 0] V3 (MovedIs [] 0 (⟨[⟨2,⟨#[97]⟩,fs⟩],[(1,[3])],-1,[],[]⟩,0) V3):=K
 have HB:=hid b13
 have E3:=hid (show V3=((w.alloc (.cells #[.string ⟨#[97]⟩,.bool false,.string ⟨#[]⟩] 48)).alloc (.cells #[.string ⟨#[98]⟩,.bool false,.string ⟨#[]⟩] 48)).alloc (.cells #[.int .i64 (-1),.string ⟨#[]⟩,.slice none 0 0,.int .i64 0,.string ⟨#[97]⟩,.slice (some ⟨w.heap.size,0,none⟩) 1 1,.int .i64 0,.string ⟨#[]⟩,.slice (some ⟨w.heap.size+1,0,none⟩) 1 1] 40) by rw[e3,e2,e1])
 have HFS:=hid hfs
 clear b1 b2 b3 s1 s2 b23 b13 r1 r2 r3 e1 e2 e3 hre hfs
 rw[E3.out] at K
 go_enter Tryz.func10,Tryz.ntmps10
 go_wp2_with fail
 refine K.mono ?_
 rintro e w1 ⟨hb1,AN,AK,AF,AC,cn,ck,cf,cc,nl,kl,h6,h7,rfl,rn,_,_,_,_⟩
 obtain ⟨g,rfl,hg⟩:∃g,nl=[g]/\g.pl=⟨2,⟨#[97]⟩,fs⟩:=by
  cases nl with
  | nil=>exact absurd (congrArg List.length h6) (by simp)
  | cons g t=>
   cases t with
   | nil=>exact ⟨g,rfl,by injection h6⟩
   | cons _ _=>exact absurd (congrArg List.length h6) (by simp)
 obtain ⟨gp,gm,gA,gc,gf⟩:=g
 simp only[FLV.pl,FL.mk.injEq] at hg
 obtain ⟨rfl,rfl,rfl⟩:=hg
 obtain ⟨b0,o0,f,eA,hbb,hx,hfm,g0,g1,g2⟩:=rn.get (k:=0) (show 0<1 by decide)
 injection hx with hx
 subst hx eA
 have hl:gf.length=2:=HFS.out
 have HBB:=hid (HB.out.trans (by rw[<-E3.out] at hb1;exact hb1.mono HB.out.size))
 rw[Nat.zero_mul,Nat.add_zero] at g0 g1 g2
 simp only[hl] at g2
 clear K hb1 h1 h2 h3 h4 h5 E3 HB h6 h7 rn hfm HFS
 dsimp only[List.length_cons,List.length_nil]
 go_wp2
 go_ret
 exact ⟨rfl,HBB.out.alloc HBB.out.size _⟩
theorem aUm {l:List FL}{n k:Nat}{f:FL}(h:(playFl l n)[k]? = some f):-1<=f.parent/\f.parent<k/\∃x:List FV,f.files=playF x:=by
 unfold playFl at h
 rw[List.getElem?_mapIdx] at h
 obtain ⟨x,_,rfl⟩:=Option.map_eq_some_iff.1 h
 exact ⟨(aJx _ _).1,(aJx _ _).2,x.files,rfl⟩
theorem aZg {l:List FL}{n N:Nat}{ms:List MV}(hN:(playFl l n).length=N)(hm:rightM (N:Int) ms=true):rightL (playFl l n) ms=true:=by
 unfold rightL
 rw[hN,hm,Bool.and_true,Bool.and_eq_true]
 constructor
 ·refine aGu fun i p hp=>?_
  unfold parF at hp
  rw[List.getElem?_map] at hp
  obtain ⟨f,hf,rfl⟩:=Option.map_eq_some_iff.1 hp
  exact ⟨(aUm hf).1,(aUm hf).2.1⟩
 rw[List.all_eq_true]
 intro f hf
 obtain ⟨k,hk⟩:=List.getElem?_of_mem hf
 obtain ⟨x,hx⟩:=(aUm hk).2.2
 rw[hx];exact bGh x
def RebIs (k:Int)(w:World)(e:Ending) (w':World):Prop:=
 Below w.heap.size w w'/\∃(A1 A2 A3 A4:Option Addr) (n1 c1 n2 c2 n3 c3 n4 c4:Nat) (x:Int),e=.returned (.tuple #[.agg #[.slice A1 n1 c1,.slice A2 n2 c2,.int .i64 x,.slice A3 n3 c3,.slice A4 n4 c4],.int .i64 k])
theorem aQf {l:List FLV}{nl:List FLV}(h:nl.map FLV.pl=playFl (l.map FLV.pl) 12):nl.length<=12:=by
 have:=congrArg List.length h
 rw[List.length_map] at this
 have:=aZj (l.map FLV.pl) 12
 omega
end Go.Proofs.YtohblmepajhpaaaGreatDoor
namespace Go.Proofs.YtohblmepajhpaaaGreatDoor
theorem bFc {s:List SettL}{l l1:List FL}{c onto:Int}(h:oneOn s l c onto=.ok l1) :
  (mergedOn l s c onto).2=([],0)/\l1=l++[⟨onto,msgAt l c,(mergedOn l s c onto).1⟩]:=by
 unfold oneOn at h
 split at h
 ·cases h
 rename_i h1
 split at h
 ·cases h
 rename_i h2
 split at h
 ·cases h
 injection h with h
 exact ⟨Prod.ext (Decidable.not_not.1 h2) (Decidable.not_not.1 h1),h.symm⟩
theorem bDa {s:List SettL}{l:List FL}{c onto:Int}{e:MR×Int}(h:oneOn s l c onto=.error e):(e.2≠0->e.1=noMR)/\(e.2=0->e.1.clashes≠[]/\e.1.commit=c):=by
 unfold oneOn at h
 split at h
 ·rename_i h1
  injection h with h
  subst h
  exact ⟨fun _=>rfl,fun h=>absurd h h1⟩
 split at h
 ·rename_i h2
  injection h with h
  subst h
  exact ⟨fun h=>absurd rfl h,fun _=>⟨h2,rfl⟩⟩
 split at h
 ·injection h with h
  subst h
  exact ⟨fun _=>rfl,fun h=>absurd h (by decide)⟩
 cases h
def nowsF:List Int->Nat->List (Int×Int)->Nat->List (Int×Int)
 | [],_,now,_=>now
 | _::_,_,now,0=>now
 | c::cs,n,now,i+1=>nowsF cs (n+1) ((c,(n:Int))::now) i
def marksF:Nat->List Int->List (Int×List Int)
 | _,[]=>[]
 | n,c::cs=>(c,[(n:Int)])::marksF (n+1) cs
theorem aIc (cs:List Int)(n:Nat)(now:List (Int×Int)):nowsF cs n now 0=now:=by cases cs<;>rfl
theorem aGk:∀(cs:List Int) (n:Nat),(marksF n cs).length=cs.length
 | [],_=>rfl
 | _::cs,n=>congrArg (·+1) (aGk cs (n+1))
theorem aWs:∀(cs:List Int) (n i:Nat) {c:Int},cs[i]? = some c->(marksF n cs)[i]? = some (c,[((n+i:Nat):Int)])
 | [],_,_,_,h=>by cases h
 | x::cs,n,0,c,h=>by
  injection h with h
  subst h;rfl
 | x::cs,n,i+1,c,h=>by
  have:=aWs cs (n+1) i (c:=c) h
  rw[show n+1+i=n+(i+1) by omega] at this
  exact this
theorem bHw {s:List SettL}{ps:List Int}{dest:Int}:∀(cs:List Int) (now:List (Int×Int)) (l:List FL) (k:List (Int×List Int)) {l':List FL} {k':List (Int×List Int)},runF' s ps dest cs now l k=.ok (l',k')->
  ∃new:List FL,l'=l++new/\new.length=cs.length/\k'=k++marksF l.length cs/\∀(i:Nat) (c:Int),cs[i]? = some c->
   (mergedOn (l++new.take i) s c (nowF (nowsF cs l.length now i) dest (par ps c))).2=([],0)/\
   new[i]? = some ⟨nowF (nowsF cs l.length now i) dest (par ps c),msgAt (l++new.take i) c,(mergedOn (l++new.take i) s c (nowF (nowsF cs l.length now i) dest (par ps c))).1⟩
 | [],now,l,k,l',k',h=>by
  rw[runF'] at h
  injection h with h
  injection h with h1 h2
  subst h1 h2
  exact ⟨[],by simp,rfl,by simp[marksF],fun i c h=>by cases h⟩
 | c::cs,now,l,k,l',k',h=>by
  rw[runF'] at h
  cases h1:oneOn s l c (nowF now dest (par ps c)) with
  | error e=>rw[h1] at h;cases h
  | ok l1=>
   rw[h1] at h
   dsimp only at h
   obtain ⟨m1,m2⟩:=bFc h1
   generalize hf:(⟨nowF now dest (par ps c),msgAt l c,(mergedOn l s c (nowF now dest (par ps c))).1⟩:FL)=f at m2
   have hl1:l1.length=l.length+1:=by rw[m2];simp
   obtain ⟨new,e1,e2,e3,e4⟩:=bHw cs _ _ _ h
   refine ⟨f::new,by rw[e1,m2];simp,by simp[e2],by rw[e3,hl1];simp[marksF],fun i d hd=>?_⟩
   cases i with
   | zero=>
    rw[List.getElem?_cons_zero] at hd
    injection hd with hd
    subst hd
    rw[aIc,List.take_zero,List.append_nil]
    exact ⟨m1,by rw[List.getElem?_cons_zero,hf]⟩
   | succ i=>
    rw[List.getElem?_cons_succ] at hd ⊢
    obtain ⟨p1,p2⟩:=e4 i d hd
    rw[hl1,show l1++new.take i=l++(f::new).take (i+1) by rw[m2,List.take_succ_cons];simp] at p1 p2
    exact ⟨p1,p2⟩
theorem bBr {s:List SettL}{ps:List Int}{dest:Int}{e:MR×Int}:∀(cs:List Int) (now:List (Int×Int)) (l:List FL) (k:List (Int×List Int)),runF' s ps dest cs now l k=.error e->
  (e.2≠0->e.1=noMR)/\(e.2=0->e.1.clashes≠[]/\e.1.commit∈cs)
 | [],_,_,_,h=>by rw[runF'] at h;cases h
 | c::cs,now,l,k,h=>by
  rw[runF'] at h
  cases h1:oneOn s l c (nowF now dest (par ps c)) with
  | error x=>
   rw[h1] at h
   injection h with h
   subst h
   obtain ⟨p1,p2⟩:=bDa h1
   exact ⟨p1,fun h=>⟨(p2 h).1,by rw[(p2 h).2];simp⟩⟩
  | ok l1=>
   rw[h1] at h
   obtain ⟨p1,p2⟩:=bBr cs _ _ _ h
   exact ⟨p1,fun h=>⟨(p2 h).1,List.mem_cons_of_mem _ (p2 h).2⟩⟩
def ontoF (cs:List Int)(n:Nat)(dest q:Int):Nat->Int
 | 0=>dest
 | k+1=>if cs[k]? = some q then ((n+k:Nat):Int) else ontoF cs n dest q k
theorem aRw:∀(cs:List Int) (n:Nat) (now:List (Int×Int)) (i:Nat) {c:Int},cs[i]? = some c->nowsF cs n now (i+1)=(c,((n+i:Nat):Int))::nowsF cs n now i
 | [],_,_,_,_,h=>by cases h
 | x::cs,n,now,0,c,h=>by
  injection h with h
  subst h
  show nowsF cs (n+1) ((x,(n:Int))::now) 0=(x,((n+0:Nat):Int))::nowsF (x::cs) n now 0
  rw[aIc,aIc];rfl
 | x::cs,n,now,i+1,c,h=>by
  have:=aRw cs (n+1) ((x,(n:Int))::now) i (c:=c) h
  rw[show n+1+i=n+(i+1) by omega] at this
  exact this
theorem aTr {cs:List Int}{n:Nat}{dest q:Int}:∀{i:Nat},i<=cs.length->nowF (nowsF cs n [] i) dest q=ontoF cs n dest q i
 | 0,_=>by rw[aIc];rfl
 | i+1,h=>by
  obtain ⟨c,hc⟩:∃c,cs[i]? = some c:=⟨cs[i],List.getElem?_eq_getElem (by omega)⟩
  have ih:=aTr (cs:=cs) (n:=n) (dest:=dest) (q:=q) (i:=i) (by omega)
  rw[aRw cs n [] i hc,ontoF,hc]
  unfold nowF at ih ⊢
  rw[List.lookup_cons]
  by_cases e:c=q
  ·subst e
   rw[beq_self_eq_true,if_pos rfl];rfl
  rw[if_neg (fun h=>e (Option.some.inj h)),show (q == c)=false by simpa using fun h:q=c=>e h.symm]
  exact ih
theorem bBs {cs:List Int}{n:Nat}{dest q:Int}(h0:-1<=dest)(h1:dest<n):∀i:Nat,-1<=ontoF cs n dest q i/\ontoF cs n dest q i<((n+i:Nat):Int)
 | 0=>⟨h0,h1⟩
 | i+1=>by
  have:=bBs (cs:=cs) (q:=q) h0 h1 i
  rw[ontoF]
  split<;>omega
theorem aSd {l m:List FL}{i:Int}(h0:0<=i)(h:i<l.length):msgAt (l++m) i=msgAt l i:=by
 unfold msgAt
 rw[List.getElem?_append_left (by omega)]
structure StandsF (l:List FL) (ms:List MV) (source dest:Int) (x:MR):Prop where
 len:x.new.length=(moved (parF l) ms source).length
 marks:x.marks=marksF l.length (moved (parF l) ms source)
 at_:∀(i:Nat) (c:Int),(moved (parF l) ms source)[i]? = some c->∃p:Int,p=(if c=source then dest else ontoF (moved (parF l) ms source) l.length dest (par (parF l) c) i)/\-1<=p/\p<((l.length+i:Nat):Int)/\
  ∃fs,treemergeF (filesAt l (par (parF l) c)) (filesAt (l++x.new) p) (filesAt l c)=(fs,[],0)/\x.new[i]? = some ⟨p,msgAt l c,fs⟩/\treeOk fs=true
structure Alike (ms ms':List MV):Prop where
 obs:∀x,obsM ms x=obsM ms' x
 nxt:∀x,nexts ms x=nexts ms' x
theorem Alike.symm {ms ms':List MV}(h:Alike ms ms'):Alike ms' ms:=⟨fun x=>(h.obs x).symm,fun x=>(h.nxt x).symm⟩
theorem bFo {ms ms':List MV}(h:ms.map MV.pl=ms'.map MV.pl):Alike ms ms':=by
 have h1:∀(ms:List MV) (x:Int),obsM ms x=(ms.map MV.pl).any fun p=>decide (p.1=x):=fun ms x=>by rw[List.any_map];rfl
 have h2:∀(ms:List MV) (x:Int),nexts ms x=(ms.map MV.pl).flatMap fun p=>if p.1=x then p.2 else []:=fun ms x=>by rw[List.flatMap_map];rfl
 exact ⟨fun x=>by rw[h1,h1,h],fun x=>by rw[h2,h2,h]⟩
theorem Reach.alike {ms ms':List MV}(h:Alike ms ms'){i x:Int}(hr:Reach ms i x):Reach ms' i x:=by
 induction hr with
 | refl=>exact .refl
 | step _ hx hlt ih=>exact .step ih (by rw[<-h.nxt];exact hx) hlt
theorem FinalIs.alike {ms ms':List MV}(h:Alike ms ms'){i:Int}{f:List Int}(hf:FinalIs ms i f):FinalIs ms' i f:=
 ⟨hf.sorted,fun x=>by
  rw[hf.mem,h.obs]
  exact ⟨fun q=>⟨q.1.alike h,q.2⟩,fun q=>⟨q.1.alike h.symm,q.2⟩⟩⟩
theorem TargetIs.alike {l:List Int} {ms ms':List MV}(h:Alike ms ms'){i t:Int}(ht:TargetIs l ms i t):TargetIs l ms' i t:=by
 induction ht with
 | out q=>exact .out q
 | here a b c d e=>exact .here a b c (d.alike h) e
 | up a b c d _ ih=>exact .up a b c (d.alike h) ih
theorem IsOrph.alike {l:List Int} {ms ms':List MV}(h:Alike ms ms'){i t:Int}(ho:IsOrph l ms i t):IsOrph l ms' i t:=by
 obtain ⟨a,b,c,d,e,f⟩:=ho
 exact ⟨a,by rw[<-h.obs];exact b,by rw[<-h.obs];exact c,d.alike h,e,f⟩
theorem OrphanIs.alike {l:List Int} {ms ms':List MV}(h:Alike ms ms'){a b:Int}{s:Bool}(ho:OrphanIs l ms a b s):OrphanIs l ms' a b s:=by
 cases ho with
 | none_ q=>exact .none_ fun hr i hi t ht=>q hr i hi t (ht.alike h.symm)
 | some_ hr hi ho hn=>exact .some_ hr hi (ho.alike h) fun j hj t ht=>hn j hj t (ht.alike h.symm)
theorem aUl {l:List Int} {ms ms':List MV}(h:Alike ms ms')(s:Int):moved l ms s=moved l ms' s:=by
 have h1:∀(f:Nat) (k:Int),mvF l ms s f k=mvF l ms' s f k:=by
  intro f
  induction f with
  | zero=>intro k;rfl
  | succ f ih=>intro k;rw[mvF,mvF,h.obs,ih]
 have h2:∀k,mv l ms s k=mv l ms' s k:=fun k=>h1 _ _
 unfold moved movedTo
 simp only[h2]
def mvs (k:List (Int×List Int)):List MV:=k.map fun p=>⟨p.1,none,0,p.2⟩
theorem bJv (k:List (Int×List Int)):(mvs k).map MV.pl=k:=by
 unfold mvs
 rw[List.map_map]
 exact (List.map_congr_left (g:=id) fun p _=>rfl).trans (List.map_id _)
theorem bDs (k k':List (Int×List Int)):mvs (k++k')=mvs k++mvs k':=by unfold mvs;rw[List.map_append]
theorem aEn (ms:List MV):Alike ms (mvs (ms.map MV.pl)):=bFo (bJv _).symm
inductive RestR (s:List SettL) (n0 k0:Nat):Bool->List FL->List (Int×List Int)->MR×Int->Prop
 | nothing {l:List FL} {k:List (Int×List Int)}:OrphanIs (parF l) (mvs k) (-1) (-1) false->RestR s n0 k0 true l k (noMR,14)
 | done {l:List FL} {k:List (Int×List Int)}:OrphanIs (parF l) (mvs k) (-1) (-1) false->RestR s n0 k0 false l k (⟨l.drop n0,k.drop k0,-1,[],[]⟩,0)
 | stop {b:Bool} {l:List FL} {k:List (Int×List Int)} {i t:Int} {e:MR×Int}:OrphanIs (parF l) (mvs k) i t true->allF s (moved (parF l) (mvs k) i) l i t=.error e->RestR s n0 k0 b l k e
 | step {b:Bool} {l l':List FL} {k k':List (Int×List Int)} {i t:Int} {r:MR×Int}:OrphanIs (parF l) (mvs k) i t true->allF s (moved (parF l) (mvs k) i) l i t=.ok (l',k')->RestR s n0 k0 false l' (k++k') r->RestR s n0 k0 b l k r
structure GoodF (l:List FL) (k:List (Int×List Int)):Prop where
 par:rightP (parF l)=true
 mks:rightM (l.length:Int) (mvs k)=true
theorem aQq {n:Int}{ms:List MV}(h:rightM n ms=true){m:MV}(hm:m∈ms):0<=m.old/\m.old<n/\∀x∈m.new,m.old<x/\x<n:=by
 unfold rightM at h
 have:=List.all_eq_true.1 h m hm
 simp only[okM,Bool.and_eq_true,decide_eq_true_eq,List.all_eq_true] at this
 exact ⟨this.1.1.1,this.1.1.2,this.2⟩
theorem bJk {n:Int}{ms:List MV}(h:rightM n ms=true){x:Int}(hx:obsM ms x=true):0<=x/\x<n:=by
 unfold obsM at hx
 obtain ⟨m,hm,e⟩:=List.any_eq_true.1 hx
 have e:=of_decide_eq_true e
 subst e
 exact ⟨(aQq h hm).1,(aQq h hm).2.1⟩
theorem bIa {n:Int}{ms:List MV}(h:rightM n ms=true){k x:Int}(hx:x∈nexts ms k):x<n:=by
 unfold nexts at hx
 obtain ⟨m,hm,e⟩:=List.mem_flatMap.1 hx
 split at e
 ·exact ((aQq h hm).2.2 x e).2
 cases e
theorem bFr {n:Int}{ms:List MV}(h:rightM n ms=true){i x:Int}(hi:i<n)(hr:Reach ms i x):x<n:=by
 cases hr with
 | refl=>exact hi
 | step _ hx _=>exact bIa h hx
theorem aNg {n:Nat}{l:List Int}{ms:List MV}(h:rightM (n:Int) ms=true)(hl:l.length=n){i t:Int}(ht:TargetIs l ms i t):-1<=t/\t<n/\(0<=t->obsM ms t=false):=by
 induction ht with
 | out _=>exact ⟨by omega,by omega,fun h=>by omega⟩
 | @here i t f a b c d e=>
  have h1:=(d.mem t).1 (List.mem_of_getLast? e)
  have h2:=h1.1.le
  exact ⟨by omega,bFr h (by omega) h1.1,fun _=>h1.2⟩
 | up _ _ _ _ _ ih=>exact ih
theorem bCo {s:List SettL}{ps:List Int}{dest:Int}:∀(cs:List Int) (now:List (Int×Int)) (l:List FL) (k:List (Int×List Int)) {l':List FL} {k':List (Int×List Int)},runF' s ps dest cs now l k=.ok (l',k')->l.length<=2000->l'.length<=2000
 | [],_,l,k,l',k',h,hl=>by
  rw[runF'] at h
  injection h with h
  injection h with h1 h2
  subst h1
  exact hl
 | c::cs,now,l,k,l',k',h,hl=>by
  rw[runF'] at h
  cases h1:oneOn s l c (nowF now dest (par ps c)) with
  | error e=>rw[h1] at h;cases h
  | ok l1=>
   rw[h1] at h
   refine bCo cs _ _ _ h ?_
   unfold oneOn at h1
   split at h1
   ·cases h1
   split at h1
   ·cases h1
   split at h1
   ·cases h1
   injection h1 with h1
   rw[<-h1,List.length_append,List.length_singleton]
   omega
structure StepF (l:List FL) (k:List (Int×List Int)) (i:Int) (l':List FL) (k':List (Int×List Int)):Prop where
 pre:∃new:List FL,l'=l++new/\new.length=(moved (parF l) (mvs k) i).length/\k'=marksF l.length (moved (parF l) (mvs k) i)/\
  ∀(j:Nat) (c:Int),(moved (parF l) (mvs k) i)[j]? = some c->∃(p:Int) (fs:List FV),-1<=p/\p<((l.length+j:Nat):Int)/\new[j]? = some ⟨p,msgAt l c,fs⟩
 lim:l.length<=2000->l'.length<=2000
 more:l.length<l'.length
theorem bIt {l:List Int}{ms:List MV}{s k:Int}(h:mv l ms s k=true):obsM ms k=false:=by
 unfold mv mvF at h
 simp only[Bool.and_eq_true,Bool.not_eq_true'] at h
 exact h.1
theorem bAx {l:List Int}{ms:List MV}{i t:Int}(h:OrphanIs l ms i t true):i∈moved l ms i:=by
 cases h with
 | @some_ j t hr hj ho _=>
  refine aEk.2 ⟨⟨hr,by omega,by omega⟩,Int.le_refl _,by omega,?_⟩
  unfold mv mvF
  rw[ho.2.1,decide_eq_true rfl];rfl
theorem aXm {s:List SettL} {l l':List FL} {k k':List (Int×List Int)}{i t:Int}(hg:GoodF l k)(ho:OrphanIs (parF l) (mvs k) i t true)(h:allF s (moved (parF l) (mvs k) i) l i t=.ok (l',k')):StepF l k i l' k':=by
 have hpl:(parF l).length=l.length:=by unfold parF;simp
 have hm:=bAx ho
 have hti:-1<=t/\t<l.length:=by
  cases ho with
  | some_ _ _ ho _=>have:=aNg hg.mks hpl ho.2.2.2.1;exact ⟨this.1,this.2.1⟩
 unfold allF at h
 split at h
 ·cases h
 split at h
 ·cases h
 obtain ⟨new,e1,e2,e3,e4⟩:=bHw _ _ _ _ h
 refine ⟨⟨new,e1,e2,by rw[e3,List.nil_append],fun j c hc=>?_⟩,fun hl=>bCo _ _ _ _ h hl,?_⟩
 ·obtain ⟨q1,q2⟩:=e4 j c hc
  have hil:j<(moved (parF l) (mvs k) i).length:=(List.getElem?_eq_some_iff.1 hc).1
  obtain ⟨⟨_,i0,_⟩,c0,c1,_⟩:=aEk.1 (List.mem_of_getElem? hc)
  rw[hpl] at c1
  rw[aTr (by omega)] at q2
  obtain ⟨o1,o2⟩:=bBs (cs:=moved (parF l) (mvs k) i) (q:=par (parF l) c) hti.1 hti.2 j
  exact ⟨_,_,o1,o2,by rw[q2,aSd (by omega) c1]⟩
 rw[e1,List.length_append,e2]
 have:=List.length_pos_of_mem hm
 omega
theorem aFy:∀(cs:List Int) (n:Nat) (x:Int),obsM (mvs (marksF n cs)) x=decide (x∈cs)
 | [],_,x=>by simp[mvs,marksF,obsM]
 | c::cs,n,x=>by
  have ih:=aFy cs (n+1) x
  unfold obsM mvs at ih ⊢
  rw[marksF,List.map_cons,List.any_cons,ih]
  by_cases e:c=x
  ·subst e;simp
  have e2:¬x=c:=fun h=>e h.symm
  simp[e,e2]
theorem aGm {cs:List Int}{n:Nat}{x:Int}(h:x∉cs):nexts (mvs (marksF n cs)) x=[]:=aRs (by rw[aFy,decide_eq_false h])
theorem aJz:∀{cs:List Int} {n j:Nat} {x:Int},cs.Nodup->cs[j]? = some x->nexts (mvs (marksF n cs)) x=[((n+j:Nat):Int)]
 | [],_,_,_,_,h=>by cases h
 | c::cs,n,0,x,hn,h=>by
  rw[List.getElem?_cons_zero] at h
  injection h with h
  subst h
  have h1:=aGm (n:=n+1) (List.nodup_cons.1 hn).1
  unfold nexts mvs at h1 ⊢
  rw[marksF,List.map_cons,List.flatMap_cons,h1,if_pos rfl];rfl
 | c::cs,n,j+1,x,hn,h=>by
  rw[List.getElem?_cons_succ] at h
  have h1:=aJz (n:=n+1) (List.nodup_cons.1 hn).2 h
  have hne:¬c=x:=fun e=>(List.nodup_cons.1 hn).1 (e▸List.mem_of_getElem? h)
  unfold nexts mvs at h1 ⊢
  rw[marksF,List.map_cons,List.flatMap_cons,h1,if_neg hne,List.nil_append]
  congr 2
  omega
theorem aQj (a b:List MV)(x:Int):obsM (a++b) x=(obsM a x || obsM b x):=by unfold obsM;rw[List.any_append]
theorem aIz (a b:List MV)(x:Int):nexts (a++b) x=nexts a x++nexts b x:=by unfold nexts;rw[List.flatMap_append]
theorem aUv (l:List Int)(ms:List MV)(s:Int):(moved l ms s).Nodup:=(aTn l ms s).imp fun h e=>by omega
theorem StepF.good {l l':List FL} {k k':List (Int×List Int)}{i:Int}(h:StepF l k i l' k')(hg:GoodF l k):GoodF l' (k++k'):=by
 obtain ⟨new,rfl,e2,rfl,e4⟩:=h.pre
 have hpl:(parF l).length=l.length:=by unfold parF;simp
 refine ⟨aGu fun j p hp=>?_,?_⟩
 ·unfold parF at hp
  rw[List.map_append] at hp
  by_cases hj:j<l.length
  ·rw[List.getElem?_append_left (by simpa using hj)] at hp
   have h1:=aBb hg.par (i:=(j:Int)) (by omega) (by rw[hpl];omega)
   rw[aDu (show (parF l)[j]? = some p from hp)] at h1
   exact h1
  rw[List.getElem?_append_right (by rw[List.length_map];omega),List.length_map,List.getElem?_map] at hp
  obtain ⟨f,hf,rfl⟩:=Option.map_eq_some_iff.1 hp
  have hl:=(List.getElem?_eq_some_iff.1 hf).1
  obtain ⟨p,fs,q1,q2,q3⟩:=e4 (j-l.length) _ (List.getElem?_eq_getElem (by omega))
  rw[hf] at q3
  injection q3 with q3
  subst q3
  exact ⟨q1,by show p<(j:Int);omega⟩
 rw[bDs]
 unfold rightM
 rw[List.all_append,Bool.and_eq_true,List.all_eq_true,List.all_eq_true]
 have hlen:(l++new).length=l.length+new.length:=List.length_append
 constructor
 ·intro m hm
  have h1:=List.all_eq_true.1 hg.mks m hm
  simp only[okM,Bool.and_eq_true,decide_eq_true_eq,List.all_eq_true] at h1 ⊢
  obtain ⟨⟨⟨a,b⟩,c⟩,d⟩:=h1
  exact ⟨⟨⟨a,by omega⟩,c⟩,fun x hx=>⟨(d x hx).1,by have:=(d x hx).2;omega⟩⟩
 intro m hm
 obtain ⟨p,hp,rfl⟩:=List.mem_map.1 hm
 obtain ⟨j,hj,ej⟩:=List.getElem_of_mem hp
 rw[aGk] at hj
 have hc:(moved (parF l) (mvs k) i)[j]? = some (moved (parF l) (mvs k) i)[j]:=List.getElem?_eq_getElem hj
 have h3:=aWs _ l.length j hc
 rw[List.getElem?_eq_getElem (by rw[aGk];exact hj),ej] at h3
 injection h3 with h3
 subst h3
 obtain ⟨⟨_,i0,_⟩,c0,c1,_⟩:=aEk.1 (List.mem_of_getElem? hc)
 rw[hpl] at c1
 simp only[okM,Bool.and_eq_true,decide_eq_true_eq,List.all_eq_true,List.mem_singleton,List.length_singleton]
 exact ⟨⟨⟨by omega,by omega⟩,by decide⟩,fun x hx=>by subst hx;omega⟩
def KeptF (l0:List FL)(k0:List (Int×List Int))(l:List FL)(k:List (Int×List Int)):Prop:=
 ∀i:Int,0<=i->i<l0.length->obsM (mvs k0) i=false->∃f:Int,FinalIs (mvs k) i [f]/\0<=f/\f<l.length/\msgAt l f=msgAt l0 i
theorem KeptF.start (l:List FL)(k:List (Int×List Int)):KeptF l k l k:=fun i h0 h1 ho=>⟨i,FinalIs.self ho,h0,h1,rfl⟩
theorem KeptF.step {l0 l l':List FL} {k0 k k':List (Int×List Int)}{i:Int}(hk:KeptF l0 k0 l k)(hg:GoodF l k)(h:StepF l k i l' k'):KeptF l0 k0 l' (k++k'):=by
 intro x x0 x1 xo
 obtain ⟨f,hf,f0,f1,fm⟩:=hk x x0 x1 xo
 obtain ⟨new,rfl,e2,rfl,e4⟩:=h.pre
 have hpl:(parF l).length=l.length:=by unfold parF;simp
 have hlen:(l++new).length=l.length+new.length:=List.length_append
 rw[bDs]
 generalize hcs:moved (parF l) (mvs k) i=cs at *
 have hnd:cs.Nodup:=hcs▸aUv _ _ _
 have hlive:∀c∈cs,obsM (mvs k) c=false/\c<l.length:=fun c hc=>by
  rw[<-hcs] at hc
  obtain ⟨_,_,c1,c2⟩:=aEk.1 hc
  exact ⟨bIt c2,by rw[hpl] at c1;exact c1⟩
 have hfr:∀y,Reach (mvs k) x y->obsM (mvs k) y=false->y=f:=fun y h1 h2=>by simpa using (hf.mem y).2 ⟨h1,h2⟩
 obtain ⟨rf,of⟩:=(hf.mem f).1 (by simp)
 -- whoever is reached was reached,or is new,and replaces what was final
 have hnew:∀j:Nat,obsM (mvs k++mvs (marksF l.length cs)) ((l.length+j:Nat):Int)=false:=fun j=>by
  rw[aQj,aFy]
  have h1:obsM (mvs k) ((l.length+j:Nat):Int)=false:=by
   cases e:obsM (mvs k) ((l.length+j:Nat):Int) with
   | false=>rfl
   | true=>have:=(bJk hg.mks e).2;omega
  rw[h1,decide_eq_false (fun hc=>by have:=(hlive _ hc).2;omega)];rfl
 have key:∀y,Reach (mvs k++mvs (marksF l.length cs)) x y->Reach (mvs k) x y\/y∈nexts (mvs (marksF l.length cs)) f:=by
  intro y hy
  induction hy with
  | refl=>exact .inl .refl
  | @step a b _ hb hlt ih=>
   rw[aIz] at hb
   rcases ih with ih | ih
   ·rcases List.mem_append.1 hb with hb | hb
    ·exact .inl (.step ih hb hlt)
    by_cases ha:a∈cs
    ·rw[hfr a ih (hlive a ha).1] at hb
     exact .inr hb
    rw[aGm ha] at hb;cases hb
   exfalso
   by_cases hfc:f∈cs
   ·obtain ⟨j,hj,ej⟩:=List.getElem_of_mem hfc
    rw[aJz hnd (by rw[List.getElem?_eq_getElem hj,ej]:cs[j]? = some f),List.mem_singleton] at ih
    subst ih
    rw[<-aIz,aRs (hnew j)] at hb
    cases hb
   rw[aGm hfc] at ih;cases ih
 have mono:∀y,Reach (mvs k) x y->Reach (mvs k++mvs (marksF l.length cs)) x y:=by
  intro y hy
  induction hy with
  | refl=>exact .refl
  | step _ hb hlt ih=>exact .step ih (by rw[aIz];exact List.mem_append_left _ hb) hlt
 by_cases hfc:f∈cs
 ·obtain ⟨j,hj,ej⟩:=List.getElem_of_mem hfc
  have hcj:cs[j]? = some f:=by rw[List.getElem?_eq_getElem hj,ej]
  have hnx:=aJz (n:=l.length) hnd hcj
  obtain ⟨p,fs,_,_,q3⟩:=e4 j f hcj
  refine ⟨((l.length+j:Nat):Int),⟨by simp,fun y=>?_⟩,by omega,by rw[hlen,e2];omega,?_⟩
  ·rw[List.mem_singleton]
   constructor
   ·rintro rfl
    exact ⟨.step (mono f rf) (by rw[aIz,hnx];simp) (by omega),hnew j⟩
   rintro ⟨h1,h2⟩
   rcases key y h1 with h3 | h3
   ·rw[aQj,Bool.or_eq_false_iff,aFy] at h2
    have:=hfr y h3 h2.1
    subst this
    exact absurd hfc (of_decide_eq_false h2.2)
   rw[hnx,List.mem_singleton] at h3;exact h3
  rw[<-fm]
  unfold msgAt at q3 ⊢
  rw[Int.toNat_natCast,List.getElem?_append_right (by omega),show l.length+j-l.length=j by omega,q3];rfl
 refine ⟨f,⟨by simp,fun y=>?_⟩,f0,by rw[hlen];omega,by rw[aSd f0 f1];exact fm⟩
 rw[List.mem_singleton]
 constructor
 ·rintro rfl
  exact ⟨mono y rf,by rw[aQj,of,aFy,decide_eq_false hfc];rfl⟩
 rintro ⟨h1,h2⟩
 rw[aQj,Bool.or_eq_false_iff] at h2
 rcases key y h1 with h3 | h3
 ·exact hfr y h3 h2.1
 rw[aGm hfc] at h3;cases h3
theorem aNt (a b c:List FV):(treemergeF a b c).2.2≠14:=by
 rw[treemergeF]
 split
 ·exact (by decide:(5:Int)≠14)
 split
 ·exact (by decide:(6:Int)≠14)
 exact (by decide:(0:Int)≠14)
theorem aWe (l:List FL)(s:List SettL)(c onto:Int):(mergedOn l s c onto).2.2≠14:=by
 unfold mergedOn
 split
 ·exact (by decide:(0:Int)≠14)
 exact aNt _ _ _
theorem aWz {s:List SettL}{ps:List Int}{dest:Int}{e:MR×Int}:∀(cs:List Int) (now:List (Int×Int)) (l:List FL) (k:List (Int×List Int)),runF' s ps dest cs now l k=.error e->e.2≠14
 | [],_,_,_,h=>by rw[runF'] at h;cases h
 | c::cs,now,l,k,h=>by
  rw[runF'] at h
  cases h1:oneOn s l c (nowF now dest (par ps c)) with
  | error x=>
   rw[h1] at h
   injection h with h
   subst h
   unfold oneOn at h1
   split at h1
   ·injection h1 with h1;subst h1;exact aWe _ _ _ _
   split at h1
   ·injection h1 with h1;subst h1;exact (by decide:(0:Int)≠14)
   split at h1
   ·injection h1 with h1;subst h1;exact (by decide:(6:Int)≠14)
   cases h1
  | ok l1=>rw[h1] at h;exact aWz cs _ _ _ h
theorem bIp {s:List SettL}{l:List FL}{k:List (Int×List Int)}{i t:Int}{e:MR×Int}(hg:GoodF l k)(ho:OrphanIs (parF l) (mvs k) i t true)(h:allF s (moved (parF l) (mvs k) i) l i t=.error e):e.2≠14/\(e.2=0->0<=e.1.commit):=by
 have hpl:(parF l).length=l.length:=by unfold parF;simp
 cases ho with
 | @some_ j t hr hj ho _=>
  unfold allF at h
  split at h
  ·injection h with h;subst h;exact ⟨by decide,fun h=>absurd h (by decide)⟩
  split at h
  ·rename_i hp
   have h1:=(aNg hg.mks hpl ho.2.2.2.1).2.2
   rw[<-hp] at h1
   have h2:=ho.2.2.1
   rw[h1 ho.1] at h2;cases h2
  obtain ⟨p1,p2⟩:=bBr _ _ _ _ h
  refine ⟨fun h14=>?_,fun h0=>?_⟩
  ·exact aWz _ _ _ _ h h14
  obtain ⟨⟨_,i0,_⟩,c0,_⟩:=aEk.1 (p2 h0).2
  exact Int.le_trans i0 c0
theorem aMb:∀(cs:List Int) (n:Nat),∀p∈marksF n cs,p.2.length<=12
 | [],_,_,h=>by cases h
 | c::cs,n,p,h=>by
  rw[marksF] at h
  rcases List.mem_cons.1 h with rfl | h
  ·exact (by decide:(1:Nat)<=12)
  exact aMb cs _ p h
theorem RestR.law {s:List SettL}{n0 m0:Nat}{b:Bool}{l:List FL}{k:List (Int×List Int)}{r:MR×Int}(h:RestR s n0 m0 b l k r):∀{l0:List FL} {k0:List (Int×List Int)},GoodF l k->KeptF l0 k0 l k->(∃t,l=l0++t)->(∃t,k=k0++t)->l.length<=2000->(∀p∈k,p.2.length<=12)->k.length+l0.length=k0.length+l.length->
  (r.2=14->b=true/\OrphanIs (parF l) (mvs k) (-1) (-1) false)/\(b=true->OrphanIs (parF l) (mvs k) (-1) (-1) false->r.2=14)/\
  (r.2=0->r.1.commit<0->∃l' k',GoodF l' k'/\KeptF l0 k0 l' k'/\(∃t,l'=l0++t)/\(∃t,k'=k0++t)/\l'.length<=2000/\OrphanIs (parF l') (mvs k') (-1) (-1) false/\r.1.new=l'.drop n0/\r.1.marks=k'.drop m0/\(∀p∈k',p.2.length<=12)/\k'.length+l0.length=k0.length+l'.length):=by
 induction h with
 | nothing ho=>exact fun _ _ _ _ _ _ _=>⟨fun _=>⟨rfl,ho⟩,fun _ _=>rfl,fun h=>absurd h (show ¬(14:Int)=0 by decide)⟩
 | done ho=>exact fun hg hk h1 h2 h3 h4 h5=>⟨fun h=>absurd h (show ¬(0:Int)=14 by decide),(fun h=>by cases h),fun _ _=>⟨_,_,hg,hk,h1,h2,h3,ho,rfl,rfl,h4,h5⟩⟩
 | stop ho he=>
  intro l0 k0 hg _ _ _ _ _ _
  obtain ⟨p1,p2⟩:=bIp hg ho he
  refine ⟨fun h=>absurd h p1,fun _ h=>?_,fun h0 h1=>absurd (p2 h0) (by omega)⟩
  have:=(ho.uniq h).2.2
  cases this
 | @step b l l' k k' i t r ho ha _ ih=>
  intro l0 k0 hg hk h1 h2 h3 h4 h5
  have hs:=aXm hg ho ha
  obtain ⟨t1,e1⟩:=h1
  obtain ⟨t2,e2⟩:=h2
  obtain ⟨new,e3,e4,e5,_⟩:=hs.pre
  obtain ⟨q1,_,q3⟩:=ih (hs.good hg) (hk.step hg hs) ⟨t1++new,by rw[e3,e1,List.append_assoc]⟩ ⟨t2++k',by rw[e2,List.append_assoc]⟩ (hs.lim h3)
   (fun p hp=>(List.mem_append.1 hp).elim (h4 p) fun h=>by rw[e5] at h;exact aMb _ _ p h) (by rw[e3,e5,List.length_append,List.length_append,aGk,e4];omega)
  refine ⟨fun h=>(by have:=(q1 h).1;cases this),fun _ h=>?_,q3⟩
  have:=(ho.uniq h).2.2
  cases this
theorem bCz {ms:List MV}(h:∀p∈ms.map MV.pl,p.2.length<=12)(hl:ms.length<=2100):fewM ms=true:=by
 simp only[fewM,Bool.and_eq_true,List.all_eq_true,decide_eq_true_eq]
 exact ⟨fun m hm=>h _ (List.mem_map_of_mem hm),hl⟩
structure RInv (s:List SettL) (l0:List FL) (k0:List (Int×List Int)) (b:Bool) (l:List FL) (k:List (Int×List Int)):Prop where
 good:GoodF l k
 lim:l.length<=2000
 cnt:k.length+l0.length=k0.length+l.length
 few:∀p∈k,p.2.length<=12
 goes:∀r,RestR s l0.length k0.length b l k r->RestR s l0.length k0.length true l0 k0 r
 pos:l0.length<=l.length
theorem RInv.start {s:List SettL}{l:List FL}{k:List (Int×List Int)}(hg:GoodF l k)(hl:l.length<=2000)(hf:∀p∈k,p.2.length<=12):RInv s l k true l k:=
 ⟨hg,hl,rfl,hf,fun _ h=>h,Nat.le_refl _⟩
theorem RInv.next {s:List SettL} {l0 l l':List FL} {k0 k k':List (Int×List Int)}{b:Bool}{i t:Int}(h:RInv s l0 k0 b l k)(ho:OrphanIs (parF l) (mvs k) i t true)(ha:allF s (moved (parF l) (mvs k) i) l i t=.ok (l',k')):RInv s l0 k0 false l' (k++k')/\l.length<l'.length:=by
 have hs:=aXm h.good ho ha
 obtain ⟨new,e1,e2,e3,_⟩:=hs.pre
 have h1:=h.cnt
 have h2:=h.pos
 have h3:=hs.more
 refine ⟨⟨hs.good h.good,hs.lim h.lim,?_,fun p hp=>?_,fun r hr=>h.goes r (.step ho ha hr),by omega⟩,h3⟩
 ·rw[e3,e1,List.length_append,List.length_append,aGk,e2];omega
 rcases List.mem_append.1 hp with hp | hp
 ·exact h.few p hp
 rw[e3] at hp;exact aMb _ _ p hp
end Go.Proofs.YtohblmepajhpaaaGreatDoor
namespace Go.Proofs.YtohblmepajhpaaaGreatDoor
open Go.RowKit
theorem aQk {A:Option Addr}{c:Nat}{l:List Int}{v:Int}{w:World}(hn:l.length<=1000000)(h:Rd w w.heap.size 1 A l.length c (l.map (.int .i64))) :
  Calls Tryz.prog 69 #[.slice A l.length c,.int .i64 v] w (IntsF A l.length (AddIs l v) w):=by
 have C:=bDk (x:=v) (by unfold maxLen;omega) h
 by_cases hv:v∈l
 ·rw[decide_eq_true hv] at C
  go_enter Tryz.func69,Tryz.ntmps69
  go_wp2_with (go_at_call 57;refine C.mono ?_;rintro e w' ⟨rfl,hb⟩)
  go_ret
  exact ⟨A,c,l,rfl,h.to hb hb.size,hb,bFm hv,fun a ha=>.inl ⟨rfl,List.length_pos_of_mem hv⟩⟩
 rw[decide_eq_false hv] at C
 have HV:=hid hv;clear hv
 generalize hL:l.length=n at *
 have HL:=hid hL;clear hL
 have hcap:=h.cap
 go_enter Tryz.func69,Tryz.ntmps69
 go_wp2_with (go_at_call 57;refine C.mono ?_;rintro e w0 ⟨rfl,hb0⟩)
 go_loopw[5] (fun i wr=>∃k:Nat,k<=n/\i=.int .i64 k/\Below w.heap.size w wr/\Hid (∀(j:Nat) (x:Int),k<=j->l[j]? = some x->v<x)) (fun i _=>(intOf i).toNat)
 case atStart=>exact ⟨n,Nat.le_refl _,rfl,hb0,fun j x hj hx=>by have:=(List.getElem?_eq_some_iff.1 hx).1;rw[HL.out] at this;omega⟩
 obtain ⟨k,hk,rfl,hb,hj⟩:=hrel
 have FIN:∀(hpl:PlaceIs l v k),PlaceIs l v k:=fun h=>h
 by_cases hpos:0<k
 ·obtain ⟨b0,o0,x,rfl,hbb,hx,g0⟩:=h.int_ (k:=k-1) (by omega)
  have h0:=(hb.cell (p:=⟨b0,o0+(k-1),none⟩) hbb).trans g0
  have e1:((k:Int)-1).toNat=k-1:=by omega
  have HX:=hid hx;clear hx
  by_cases hgt:v<x
  ·go_wp2
   go_roundw
   case rel=>
    refine ⟨k-1,by omega,by go_num,hb,fun j y hj' hy=>?_⟩
    by_cases e:j=k-1
    ·subst e;rw[HX.out] at hy;cases hy;exact hgt
    exact hj.out j y (by omega) hy
   simp[intOf];omega
  have HP:=hid (show PlaceIs l v k from ⟨by rw[HL.out];exact hk,fun j x hj' hx=>hj.out j x hj' hx,.inr ⟨x,HX.out,by omega⟩⟩)
  clear hj HX
  have HR:=hid h
  go_wp2
  clear h0 g0
  refine aAs (fun v'=>Below w.heap.size w v') (.q 0 (.q 1 (.q 2 (.q 4 (.q 7 (.q 8 (.q 9 (.two 3 (.one 5 (.one 6 (.one 10 (.q 11 .leaf)))) 5 (.one 3 (.one 6 (.one 10 (.q 11 .leaf)))))))))))) mixed (by kernel_rfl) hb.drew ?_
  intro T M Q hT hT' hM hQ
  clear hM
  refine aCj ?_
  intro O hO
  have t0:=hO true 0
  have t1:=hO true 1
  have t2:=hO true 2
  have t4:=hO true 4
  have t7:=hO true 7
  have t8:=hO true 8
  have t9:=hO true 9
  have t11:=hO true 11
  have e3:=hO false 3
  have e5:=hO false 5
  have e6:=hO false 6
  have e10:=hO false 10
  simp only[qcmp] at t0 t1 t2 t4 t7 t8 t9 t11 e3 e5 e6 e10
  clear hO
  simp (maxSteps:=9^7) only[↓wt_q,↓aAz,t0,t1,t2,t4,t7,t8,t9,e3,e5,↓qpre,aAb,aAe,aAc]
  clear t0 t1 t2 t4 t7 t8 t9
  have hrd:=(HR.out.below hb).drew
  have hbd:Below w.heap.size w wr.drew:=hb.drew
  clear hb
  generalize wr.drew=w1 at *
  obtain ⟨A1,q1,r1⟩:=aGh hrd (l:=0) (k:=k) (by omega) hk
  obtain ⟨A2,q2,r2⟩:=aGh hrd (l:=k) (k:=n) hk (Nat.le_refl _)
  rw[q1,q2]
  rw[Nat.sub_zero,List.drop_zero] at r1
  rw[List.take_of_length_le (by rw[HL.out];omega)] at r2
  clear q1 q2 hrd
  have hlk:(l.take k).length=k:=by rw[List.length_take,HL.out];omega
  have hbs:=hbd.size
  simp only[Nat.sub_zero]
  refine ⟨⟨by omega,by omega⟩,⟨by omega,by omega⟩,?_,?_⟩
  ·refine aAm E28 (base:=w.heap.size) (n:=0) (xs:=[]) rfl rfl (World.ownsRow_nil _ _ _ _) r1 (aAq _) (by simp only[maxLen];omega) (by omega) hbs ?_
   intro v1 w2 ho1 hg1 _
   rw[Nat.zero_add,List.nil_append] at ho1
   have hb2:=hbd.grown hg1 hbs (fun g hg=>by cases hg)
   replace r2:=r2.below (aDm (w:=w1) (w':=w2) hg1 |>.mono hbs)
   refine ⟨hT _ hb2,?_⟩
   simp (maxSteps:=9^7) only[↓aAj,e5,aAb,aAc]
   refine aEu E28 rfl rfl ⟨hT _ (hb2.alloc hb2.size _),?_⟩
   have ho1':=ho1.alloc (.cells #[.int .i64 v] 3)
   have hv:=aBi w2 v
   have hb3:=hb2.alloc hb2.size (.cells #[.int .i64 v] 3)
   replace r2:=r2.below ((Below.refl w2.heap.size w2).alloc (Nat.le_refl _) (.cells #[.int .i64 v] 3) |>.mono hb2.size)
   clear ho1 hg1 hb2 r1 hbd hbs
   simp (maxSteps:=9^7) only[↓aAj,e6,aAb,aAc]
   generalize w2.alloc (.cells #[.int .i64 v] 3)=w3 at *
   refine aAm E28 (base:=w.heap.size) (n:=k) rfl rfl ho1' hv (aAq _) (by simp only[maxLen];omega) (by omega) hb3.size ?_
   intro v4 w4 ho4 hg4 _
   have hb4:=hb3.grown hg4 hb3.size (fun g hg=>(ho1'.lt g hg).1)
   replace r2:=r2.grown hg4 hb3.size (fun g hg=>(ho1'.lt g hg).1)
   refine ⟨hT _ hb4,?_⟩
   simp (maxSteps:=9^7) only[↓aAj,e10,aAb,aAc]
   refine aAm E28 (base:=w.heap.size) (n:=k+1) rfl rfl ho4 r2 (aAq _) (by simp only[maxLen];omega) (by omega) hb4.size ?_
   intro v5 w5 ho5 hg5 _
   have hb5:=hb4.grown hg5 hb4.size (fun g hg=>(ho4.lt g hg).1)
   refine ⟨hT _ hb5,?_⟩
   simp (maxSteps:=9^7) only[↓aBy,↓wt_q,t11,↓qpre,aAb,aAc]
   refine hQ _ _ ?_
   have HB:=hid hb5
   have HO:=hid ho5
   clear hQ hT hT' C t11 e3 e5 e6 e10 ho1' hv hb3 ho4 hg4 hb4 r2 hb5 ho5 hg5
   go_wp2
   go_ret
   obtain ⟨A5,c5,rfl,hc5⟩:=aAd HO.out
   have hr5:=Rd.of_own HO.out hc5
   have hll:(l.take k++[v]++l.drop k).length=k+1+(n-k):=by rw[List.length_append,List.length_append,hlk,List.length_drop,HL.out];rfl
   rw[<-List.map_append,<-List.map_append] at hr5
   rw[<-hll] at hr5 ⊢
   exact ⟨A5,c5,l.take k++[v]++l.drop k,rfl,hr5,HB.out,aFi HV.out HP.out,fun a ha=>.inr (aCh HO.out a ha)⟩
  refine aEu E28 rfl rfl ⟨hT _ (hbd.alloc hbs _),?_⟩
  have hv0:=aBi w1 v
  have hb2:=hbd.alloc hbs (.cells #[.int .i64 v] 3)
  replace r1:=r1.below ((Below.refl w1.heap.size w1).alloc (Nat.le_refl _) (.cells #[.int .i64 v] 3) |>.mono hbs)
  replace r2:=r2.below ((Below.refl w1.heap.size w1).alloc (Nat.le_refl _) (.cells #[.int .i64 v] 3) |>.mono hbs)
  simp (maxSteps:=9^7) only[↓aAj,e3,aAb,aAc]
  generalize w1.alloc (.cells #[.int .i64 v] 3)=w2 at *
  have hbs2:=hb2.size
  refine aAm E28 (base:=w.heap.size) (n:=0) (xs:=[]) rfl rfl (World.ownsRow_nil _ _ _ _) r1 (aAq _) (by simp only[maxLen];omega) (by omega) hbs2 ?_
  intro v1 w3 ho1' hg1 _
  rw[Nat.zero_add,List.nil_append] at ho1'
  have hb3:=hb2.grown hg1 hbs2 (fun g hg=>by cases hg)
  have hgb:=aDm (w:=w2) (w':=w3) hg1
  replace r2:=r2.below (hgb.mono hbs2)
  have hv:=hv0.below hgb
  clear hv0 hg1 hb2 r1 hbd hbs hbs2 hgb
  refine ⟨hT _ hb3,?_⟩
  simp (maxSteps:=9^7) only[↓aAj,e6,aAb,aAc]
  refine aAm E28 (base:=w.heap.size) (n:=k) rfl rfl ho1' hv (aAq _) (by simp only[maxLen];omega) (by omega) hb3.size ?_
  intro v4 w4 ho4 hg4 _
  have hb4:=hb3.grown hg4 hb3.size (fun g hg=>(ho1'.lt g hg).1)
  replace r2:=r2.grown hg4 hb3.size (fun g hg=>(ho1'.lt g hg).1)
  refine ⟨hT _ hb4,?_⟩
  simp (maxSteps:=9^7) only[↓aAj,e10,aAb,aAc]
  refine aAm E28 (base:=w.heap.size) (n:=k+1) rfl rfl ho4 r2 (aAq _) (by simp only[maxLen];omega) (by omega) hb4.size ?_
  intro v5 w5 ho5 hg5 _
  have hb5:=hb4.grown hg5 hb4.size (fun g hg=>(ho4.lt g hg).1)
  refine ⟨hT _ hb5,?_⟩
  simp (maxSteps:=9^7) only[↓aBy,↓wt_q,t11,↓qpre,aAb,aAc]
  refine hQ _ _ ?_
  have HB:=hid hb5
  have HO:=hid ho5
  clear hQ hT hT' C t11 e3 e5 e6 e10 ho1' hv hb3 ho4 hg4 hb4 r2 hb5 ho5 hg5
  go_wp2
  go_ret
  obtain ⟨A5,c5,rfl,hc5⟩:=aAd HO.out
  have hr5:=Rd.of_own HO.out hc5
  have hll:(l.take k++[v]++l.drop k).length=k+1+(n-k):=by rw[List.length_append,List.length_append,hlk,List.length_drop,HL.out];rfl
  rw[<-List.map_append,<-List.map_append] at hr5
  rw[<-hll] at hr5 ⊢
  exact ⟨A5,c5,l.take k++[v]++l.drop k,rfl,hr5,HB.out,aFi HV.out HP.out,fun a ha=>.inr (aCh HO.out a ha)⟩
 have hk0:k=0:=by omega
 have HP:=hid (show PlaceIs l v k from ⟨by rw[HL.out];exact hk,fun j x hj' hx=>hj.out j x hj' hx,.inl hk0⟩)
 have HR:=hid h
 clear hj
 go_wp2
 refine aAs (fun v'=>Below w.heap.size w v') (.q 0 (.q 1 (.q 2 (.q 4 (.q 7 (.q 8 (.q 9 (.two 3 (.one 5 (.one 6 (.one 10 (.q 11 .leaf)))) 5 (.one 3 (.one 6 (.one 10 (.q 11 .leaf)))))))))))) mixed (by kernel_rfl) hb.drew ?_
 intro T M Q hT hT' hM hQ
 clear hM
 refine aCj ?_
 intro O hO
 have t0:=hO true 0
 have t1:=hO true 1
 have t2:=hO true 2
 have t4:=hO true 4
 have t7:=hO true 7
 have t8:=hO true 8
 have t9:=hO true 9
 have t11:=hO true 11
 have e3:=hO false 3
 have e5:=hO false 5
 have e6:=hO false 6
 have e10:=hO false 10
 simp only[qcmp] at t0 t1 t2 t4 t7 t8 t9 t11 e3 e5 e6 e10
 clear hO
 simp (maxSteps:=9^7) only[↓wt_q,↓aAz,t0,t1,t2,t4,t7,t8,t9,e3,e5,↓qpre,aAb,aAe,aAc]
 clear t0 t1 t2 t4 t7 t8 t9
 have hrd:=(HR.out.below hb).drew
 have hbd:Below w.heap.size w wr.drew:=hb.drew
 clear hb
 generalize wr.drew=w1 at *
 obtain ⟨A1,q1,r1⟩:=aGh hrd (l:=0) (k:=k) (by omega) hk
 obtain ⟨A2,q2,r2⟩:=aGh hrd (l:=k) (k:=n) hk (Nat.le_refl _)
 rw[q1,q2]
 rw[Nat.sub_zero,List.drop_zero] at r1
 rw[List.take_of_length_le (by rw[HL.out];omega)] at r2
 clear q1 q2 hrd
 have hlk:(l.take k).length=k:=by rw[List.length_take,HL.out];omega
 have hbs:=hbd.size
 simp only[Nat.sub_zero]
 refine ⟨⟨by omega,by omega⟩,⟨by omega,by omega⟩,?_,?_⟩
 ·refine aAm E28 (base:=w.heap.size) (n:=0) (xs:=[]) rfl rfl (World.ownsRow_nil _ _ _ _) r1 (aAq _) (by simp only[maxLen];omega) (by omega) hbs ?_
  intro v1 w2 ho1 hg1 _
  rw[Nat.zero_add,List.nil_append] at ho1
  have hb2:=hbd.grown hg1 hbs (fun g hg=>by cases hg)
  replace r2:=r2.below (aDm (w:=w1) (w':=w2) hg1 |>.mono hbs)
  refine ⟨hT _ hb2,?_⟩
  simp (maxSteps:=9^7) only[↓aAj,e5,aAb,aAc]
  refine aEu E28 rfl rfl ⟨hT _ (hb2.alloc hb2.size _),?_⟩
  have ho1':=ho1.alloc (.cells #[.int .i64 v] 3)
  have hv:=aBi w2 v
  have hb3:=hb2.alloc hb2.size (.cells #[.int .i64 v] 3)
  replace r2:=r2.below ((Below.refl w2.heap.size w2).alloc (Nat.le_refl _) (.cells #[.int .i64 v] 3) |>.mono hb2.size)
  clear ho1 hg1 hb2 r1 hbd hbs
  simp (maxSteps:=9^7) only[↓aAj,e6,aAb,aAc]
  generalize w2.alloc (.cells #[.int .i64 v] 3)=w3 at *
  refine aAm E28 (base:=w.heap.size) (n:=k) rfl rfl ho1' hv (aAq _) (by simp only[maxLen];omega) (by omega) hb3.size ?_
  intro v4 w4 ho4 hg4 _
  have hb4:=hb3.grown hg4 hb3.size (fun g hg=>(ho1'.lt g hg).1)
  replace r2:=r2.grown hg4 hb3.size (fun g hg=>(ho1'.lt g hg).1)
  refine ⟨hT _ hb4,?_⟩
  simp (maxSteps:=9^7) only[↓aAj,e10,aAb,aAc]
  refine aAm E28 (base:=w.heap.size) (n:=k+1) rfl rfl ho4 r2 (aAq _) (by simp only[maxLen];omega) (by omega) hb4.size ?_
  intro v5 w5 ho5 hg5 _
  have hb5:=hb4.grown hg5 hb4.size (fun g hg=>(ho4.lt g hg).1)
  refine ⟨hT _ hb5,?_⟩
  simp (maxSteps:=9^7) only[↓aBy,↓wt_q,t11,↓qpre,aAb,aAc]
  refine hQ _ _ ?_
  have HB:=hid hb5
  have HO:=hid ho5
  clear hQ hT hT' C t11 e3 e5 e6 e10 ho1' hv hb3 ho4 hg4 hb4 r2 hb5 ho5 hg5
  go_wp2
  go_ret
  obtain ⟨A5,c5,rfl,hc5⟩:=aAd HO.out
  have hr5:=Rd.of_own HO.out hc5
  have hll:(l.take k++[v]++l.drop k).length=k+1+(n-k):=by rw[List.length_append,List.length_append,hlk,List.length_drop,HL.out];rfl
  rw[<-List.map_append,<-List.map_append] at hr5
  rw[<-hll] at hr5 ⊢
  exact ⟨A5,c5,l.take k++[v]++l.drop k,rfl,hr5,HB.out,aFi HV.out HP.out,fun a ha=>.inr (aCh HO.out a ha)⟩
 refine aEu E28 rfl rfl ⟨hT _ (hbd.alloc hbs _),?_⟩
 have hv0:=aBi w1 v
 have hb2:=hbd.alloc hbs (.cells #[.int .i64 v] 3)
 replace r1:=r1.below ((Below.refl w1.heap.size w1).alloc (Nat.le_refl _) (.cells #[.int .i64 v] 3) |>.mono hbs)
 replace r2:=r2.below ((Below.refl w1.heap.size w1).alloc (Nat.le_refl _) (.cells #[.int .i64 v] 3) |>.mono hbs)
 simp (maxSteps:=9^7) only[↓aAj,e3,aAb,aAc]
 generalize w1.alloc (.cells #[.int .i64 v] 3)=w2 at *
 have hbs2:=hb2.size
 refine aAm E28 (base:=w.heap.size) (n:=0) (xs:=[]) rfl rfl (World.ownsRow_nil _ _ _ _) r1 (aAq _) (by simp only[maxLen];omega) (by omega) hbs2 ?_
 intro v1 w3 ho1' hg1 _
 rw[Nat.zero_add,List.nil_append] at ho1'
 have hb3:=hb2.grown hg1 hbs2 (fun g hg=>by cases hg)
 have hgb:=aDm (w:=w2) (w':=w3) hg1
 replace r2:=r2.below (hgb.mono hbs2)
 have hv:=hv0.below hgb
 clear hv0 hg1 hb2 r1 hbd hbs hbs2 hgb
 refine ⟨hT _ hb3,?_⟩
 simp (maxSteps:=9^7) only[↓aAj,e6,aAb,aAc]
 refine aAm E28 (base:=w.heap.size) (n:=k) rfl rfl ho1' hv (aAq _) (by simp only[maxLen];omega) (by omega) hb3.size ?_
 intro v4 w4 ho4 hg4 _
 have hb4:=hb3.grown hg4 hb3.size (fun g hg=>(ho1'.lt g hg).1)
 replace r2:=r2.grown hg4 hb3.size (fun g hg=>(ho1'.lt g hg).1)
 refine ⟨hT _ hb4,?_⟩
 simp (maxSteps:=9^7) only[↓aAj,e10,aAb,aAc]
 refine aAm E28 (base:=w.heap.size) (n:=k+1) rfl rfl ho4 r2 (aAq _) (by simp only[maxLen];omega) (by omega) hb4.size ?_
 intro v5 w5 ho5 hg5 _
 have hb5:=hb4.grown hg5 hb4.size (fun g hg=>(ho4.lt g hg).1)
 refine ⟨hT _ hb5,?_⟩
 simp (maxSteps:=9^7) only[↓aBy,↓wt_q,t11,↓qpre,aAb,aAc]
 refine hQ _ _ ?_
 have HB:=hid hb5
 have HO:=hid ho5
 clear hQ hT hT' C t11 e3 e5 e6 e10 ho1' hv hb3 ho4 hg4 hb4 r2 hb5 ho5 hg5
 go_wp2
 go_ret
 obtain ⟨A5,c5,rfl,hc5⟩:=aAd HO.out
 have hr5:=Rd.of_own HO.out hc5
 have hll:(l.take k++[v]++l.drop k).length=k+1+(n-k):=by rw[List.length_append,List.length_append,hlk,List.length_drop,HL.out];rfl
 rw[<-List.map_append,<-List.map_append] at hr5
 rw[<-hll] at hr5 ⊢
 exact ⟨A5,c5,l.take k++[v]++l.drop k,rfl,hr5,HB.out,aFi HV.out HP.out,fun a ha=>.inr (aCh HO.out a ha)⟩
theorem wideOld:(match Tryz.prog.underlying 203 with | some (.array _ _) | some (.struct _)=>true | _=>false)=true:=by kernel_rfl
theorem Kold:Maps.Keyed Tryz.prog 203:=Maps.Keyed.of_law (deep_law_laid T.laidOut (m:=2) (by omega) (of_decide_eq_true (by kernel_rfl)) (by kernel_rfl) wideOld)
theorem Kint:Maps.Keyed Tryz.prog 3:=Maps.int_keyed Tryz.underlying3
theorem bHx {x:Int}(h:I64 x):(Lit.int .i64 x).wf=true:=by
 obtain ⟨h1,h2⟩:=h
 simp[Lit.wf,aUk]
 omega
def klO (x:Int):Lit:=.string (keyBytes [.int .i64 x])
theorem types_pos:(0:Nat)<Tryz.prog.types.size:=of_decide_eq_true (by kernel_rfl)
theorem aVh {n:Nat}(h:0<n):∃k,n=k+1:=⟨n-1,by omega⟩
theorem bIw {P : Program} {t e : TypeId} {f : Field} (hu : P.underlying t = some (.struct #[f])) (hft : f.type = e) (hfo : f.offset = 0) (hfn : (f.name != "_") = true) (hct : P.cellsOf t = 1) (hce : P.cellsOf e = 1)
  (hue:P.underlying e=some (.int .i64)) (hk:P.keyType t=true) (hp:0<P.types.size) {x:Int} (hw:(Lit.int .i64 x).wf=true):keyOf P t (.agg #[.int .i64 x])=some (klO x):=by
 obtain ⟨k,hs⟩:=aVh hp
 have h1:P.keyLits (k+1) e [.int .i64 x]=some [.int .i64 x]:=by simp[Program.keyLits,hue,hw]
 have h2:P.keyLits (k+1+1) t [.int .i64 x]=some [.int .i64 x]:=by
  unfold Program.keyLits
  simp only[hu]
  have hfn' : ¬ f.name = "_" := by simpa using hfn
  simp[hct,hft,hfo,hce,h1,hfn']
 simp[keyOf,hu,hk,Value.formed,hct,Value.cells,hs,h2,klO]
theorem aWa:Tryz.prog.keyType 203=true:=by kernel_rfl
theorem cellsOld:Tryz.prog.cellsOf 203=1:=by kernel_rfl
theorem cellsInt:Tryz.prog.cellsOf 3=1:=by kernel_rfl
theorem keyOld {x:Int}(h:I64 x):keyOf Tryz.prog 203 (.agg #[.int .i64 x])=some (klO x):=
 bIw Tryz.underlying203 rfl rfl rfl cellsOld cellsInt Tryz.underlying3 aWa types_pos (bHx h)
theorem keyInt {x:Int}(h:I64 x):keyOf Tryz.prog 3 (.int .i64 x)=some (.int .i64 x):=Maps.keyOf_int_mk Tryz.underlying3 (bHx h)
theorem bHy {x y:Int}(hx:I64 x)(hy:I64 y)(h:x≠y):klO x≠klO y:=fun e=>by
 have h1:=keyOld hx
 rw[e] at h1
 have:=Kold.inj h1 (keyOld hy)
 simp at this
 exact h this
theorem bBx {x:Int}(hx:I64 x):WideAt.IsKeyLit (klO x):=Kold.key (keyOld hx)
structure Mp (w:World) (base b:Nat) (ms:List MV) (F:Int->Value) (D:DataW Value):Prop where
 own:w.ownsMap Tryz.prog 203 Rv b ms.length D
 lo:base<=b
 at_:∀x,I64 x->D.atKey (klO x) (.held (.slice none 0 0))=.held (F x)
 has:∀x,I64 x->Maps.has D (klO x)=obsM ms x
 row:∀x,w.ownsRow base 3 1 (F x) (nexts ms x).length ((nexts ms x).map (.int .i64))
 ne:∀x y,x≠y->(F x).ownBlock=none\/(F x).ownBlock≠(F y).ownBlock
 nb:∀x,(F x).ownBlock≠some b
theorem Mp.start (w:World):Mp (w.alloc (.map #[] 0)) w.heap.size w.heap.size [] (fun _=>.slice none 0 0) (.map []):=
 ⟨World.ownsMap_made _ _ _ _,Nat.le_refl _,fun x _=>rfl,fun x _=>rfl,fun x=>World.ownsRow_nil _ _ _ _,fun x y _=>.inl rfl,fun x=>by simp[Value.ownBlock]⟩
theorem Mp.step {w w1 w2:World}{base b:Nat}{ms:List MV}{F:Int->Value}{D:DataW Value}{u:MV} {v':Value}(h:Mp w base b ms F D)(hu:I64 u.old)
  (ho:w1.ownsRow base 3 1 v' ((nexts ms u.old).length+u.new.length) ((nexts ms u.old).map (.int .i64)++u.new.map (.int .i64))) (hg1:w.grownBy w1 (F u.old).ownBlock)
  (hv:v'.ownBlock=(F u.old).ownBlock\/v'.ownBlock=some w.heap.size) (hown:w2.ownsMap Tryz.prog 203 Rv b (ms.length+1) (D.put (klO u.old) (.held v'))) (hg2:w1.grownBy w2 (some b)) :
  Mp w2 base b (ms++[u]) (fun x=>if x=u.old then v' else F x) (D.put (klO u.old) (.held v')):=by
 have hbl:=h.own.lt
 have hnb:v'.ownBlock≠some b:=by
  rcases hv with e | e<;>rw[e]
  ·exact h.nb _
  intro e2;injection e2 with e2;omega
 have hrow:∀x,x≠u.old->w2.ownsRow base 3 1 (F x) (nexts ms x).length ((nexts ms x).map (.int .i64)):=fun x hx=>
  ((h.row x).kept hg1 (h.ne x u.old hx)).kept hg2 (.inr (h.nb x))
 have hne:∀x,x≠u.old->(F x).ownBlock=none\/(F x).ownBlock≠v'.ownBlock:=fun x hx=>by
  rcases hv with e | e
  ·rw[e];exact h.ne x u.old hx
  rw[e]
  cases hb:(F x).ownBlock with
  | none=>exact .inl rfl
  | some g=>right;intro e2;injection e2 with e2;have:=((h.row x).lt g hb).2;omega
 refine ⟨by rw[List.length_append];exact hown,h.lo,fun x hx=>?_,fun x hx=>?_,fun x=>?_,fun x y hxy=>?_,fun x=>?_⟩
 ·by_cases e:x=u.old
  ·subst e
   rw[Maps.atKey_put_same h.own.isMap (bBx hx),if_pos rfl]
  rw[Maps.atKey_put_other (bHy hx hu e),if_neg e];exact h.at_ x hx
 ·rw[aLg]
  by_cases e:x=u.old
  ·subst e
   rw[Maps.has_put_same h.own.isMap (bBx hx),decide_eq_true rfl,Bool.or_true]
  rw[Maps.has_put_other (bHy hx hu e),decide_eq_false (fun e2=>e e2.symm),Bool.or_false];exact h.has x hx
 ·rw[aNu]
  by_cases e:x=u.old
  ·rw[if_pos e,if_pos e.symm,List.length_append,List.map_append,e]
   exact ho.kept hg2 (.inr hnb)
  rw[if_neg e,if_neg (fun e2=>e e2.symm)]
  exact hrow x e
 ·by_cases e:x=u.old
  ·rw[if_pos e]
   by_cases e2:y=u.old
   ·exact absurd (e.trans e2.symm) hxy
   rw[if_neg e2]
   rcases hne y e2 with h1 | h1
   ·cases hb:v'.ownBlock with
    | none=>exact .inl rfl
    | some g=>right;rw[h1];simp
   exact .inr (Ne.symm h1)
  rw[if_neg e]
  by_cases e2:y=u.old
  ·rw[if_pos e2];exact hne x e
  rw[if_neg e2];exact h.ne x y hxy
 by_cases e:x=u.old
 ·rw[if_pos e];exact hnb
 rw[if_neg e];exact h.nb x
theorem Mp.below {w w':World}{base b:Nat}{ms:List MV}{F:Int->Value}{D:DataW Value}(h:Mp w base b ms F D)(hb:Below w.heap.size w w'):Mp w' base b ms F D:=by
 have hg:w.grownBy w' none:=⟨hb.os,hb.tape,hb.output,hb.size,fun k hk _=>hb.block k hk⟩
 exact ⟨h.own.kept hg (by simp),h.lo,h.at_,h.has,fun x=>(h.row x).kept hg (by cases (F x).ownBlock<;>simp),h.ne,h.nb⟩
section
variable {P:Program} {S:World->Prop} {a:Act} {w w':World} {K:Act->World->Prop}
theorem aYm {dst:Option Tmp}{t ty:TypeId}{m x:Operand}{c q:Bool}{g:Option (Tmp×Bool)}{mv key v:Value}(hm:a.eval m=mv)(hx:a.eval x=key)
  (hrun:(Instr.lookup t mv key c).run P w=.ok v w) (hK:S w/\K (a.put dst v) w):effq P S ⟨q,dst,.lookup t m x c,ty,g⟩ a w K:=by
 refine bDd (fun p af g=>?_) hK
 unfold execOp
 simp only[hm,hx,hrun,Sem.run_bind,Sem.run_pure,Result.andThen_ok]
theorem eff_mapUpdate {dst:Option Tmp}{t ty:TypeId}{m x y:Operand}{q:Bool}{g:Option (Tmp×Bool)}{mv key val:Value}(hm:a.eval m=mv)(hx:a.eval x=key)(hy:a.eval y=val)
  (hrun:(Instr.mapUpdate t mv key val).run P w=.ok () w') (hK:S w'/\K (a.put dst undef) w'):effq P S ⟨q,dst,.mapUpdate t m x y,ty,g⟩ a w K:=by
 intro p af g
 unfold Oper.wp execOp
 simp only[hm,hx,hy,hrun,Sem.run_bind,Sem.run_pure,Result.andThen_ok]
 exact hK
end
end Go.Proofs.YtohblmepajhpaaaGreatDoor
