/- Texts of the walks, together: Walk: (*move.moving).told. The map of a move: what each commit that moved is now. Walk: (*move.moving).all. Walk: move.Rebase. Walk: few of the laws of moves. Walk: play.Tree. A box that holds a file, from world to world. -/
import Derived.Test.YtohblmepajhpaaaGreatDoorG05
import Derived.Test.YtohblmepajhpaaaGreatDoorG23
set_option maxHeartbeats 8000000
set_option maxRecDepth 100000
open Go.Lib (hid)
namespace Go.Proofs.YtohblmepajhpaaaGreatDoor
open Go.RowKit
def MovedIs (Z:List Nat)(B:Nat)(r:MR×Int)(w:World)(e:Ending) (w':World):Prop:=
 Below w.heap.size w w'/\∃(AN AK AF AC:Option Addr) (cn ck cf cc:Nat) (nl:List FLV) (kl:List MV),nl.map FLV.pl=r.1.new/\kl.map MV.pl=r.1.marks/\
  e=.returned (.tuple #[.agg #[.slice AN nl.length cn,.slice AK kl.length ck,.int .i64 r.1.commit,.slice AF r.1.files.length cf,.slice AC r.1.clashes.length cc],.int .i64 r.2])/\
  RdFl w' w'.heap.size AN nl.length cn nl/\RdM w' w'.heap.size AK kl.length ck kl/\RdF w' w'.heap.size AF r.1.files.length cf r.1.files/\Rd w' w'.heap.size 3 AC r.1.clashes.length cc (r.1.clashes.flatMap CL.cells)/\
  (∀a,AN=some a->B<=a.block)/\(∀a,AK=some a->B<=a.block)/\(∀a,AF=some a->B<=a.block)/\(∀a,AC=some a->B<=a.block)/\
  (∀f∈nl,∀a,f.A=some a->0<f.files.length->a.block∉Z)/\∀m∈kl,∀a,m.A=some a->0<m.new.length->a.block∉Z
theorem RdM.none_ (w:World)(B:Nat):RdM w B none 0 0 []:=⟨Rd.none_ _ _ _,rfl,fun _ h=>by cases h⟩
theorem aKj {Z:List Nat}{B:Nat}{k:Int} {w w':World}(hb:Below w.heap.size w w'):MovedIs Z B (noMR,k) w (.returned (.tuple #[.agg #[.slice none 0 0,.slice none 0 0,.int .i64 0,.slice none 0 0,.slice none 0 0],.int .i64 k])) w':=
 ⟨hb,none,none,none,none,0,0,0,0,[],[],rfl,rfl,rfl,RdFl.none_ _ _,RdM.none_ _ _,RdF.none_ _ _,Rd.none_ _ _ _,(fun _ h=>by cases h),(fun _ h=>by cases h),(fun _ h=>by cases h),(fun _ h=>by cases h),(fun _ h=>by cases h),fun _ h=>by cases h⟩
theorem aCp:(Tryz.prog.info? 32).map (·.size)=some 5:=by kernel_rfl
theorem aUe {Z:List Nat}{B:Nat}{w:World}{mv:Value}{b:Bool}{k:Int}(hk:k≠0) :
  Calls Tryz.prog 37 #[mv,.bool b,.int .i64 k] w (MovedIs Z B (noMR,k) w):=by
 have ek:(k != 0)=true:=by simpa using hk
 have hb:Below w.heap.size w (w.alloc (.cells #[.slice none 0 0,.slice none 0 0,.int .i64 0,.slice none 0 0,.slice none 0 0] 32)):=(Below.refl _ _).alloc (Nat.le_refl _) _
 have hbox:(w.alloc (.cells #[.slice none 0 0,.slice none 0 0,.int .i64 0,.slice none 0 0,.slice none 0 0] 32)).heap[w.heap.size]? = some (.cells #[.slice none 0 0,.slice none 0 0,.int .i64 0,.slice none 0 0,.slice none 0 0] 32 (0,0)):=heap_alloc_new _ _
 have hz:=aJj (w.alloc (.cells #[.slice none 0 0,.slice none 0 0,.int .i64 0,.slice none 0 0,.slice none 0 0] 32))
 clear hk
 go_enter Tryz.func37,Tryz.ntmps37
 go_wp2_with (refine wpList_store_row rfl 32 (.tmp 6) (.tmp 11) rfl w.heap.size #[.slice none 0 0,.slice none 0 0,.int .i64 0,.slice none 0 0,.slice none 0 0] rfl rfl _ _ hbox aCp rfl (by simp[Value.oneCell']) ?_)
 try simp only[Exit.inBlock,Exit.then]
 refine bodyPost_ret (aAm rfl _ _ w.heap.size _ _ (0,0) _ rfl (setRow_heap _ _ _ _ _ _ hbox) Tryz.underlying32 rfl aCp) rfl ?_
 exact aKj (aAj hb (Nat.le_refl _))
theorem aPw {Z:List Nat}{w0 w:World}{mb:Nat}{r:MR×Int}{e0:Ending}(h:StopIs w0 mb r e0 w)(hr:r.2=0) :
  Calls Tryz.prog 37 #[.pointer (some ⟨mb,0,none⟩),.bool false,.int .i64 0] w (MovedIs Z w0.heap.size r w):=by
 obtain ⟨_,_,_,h4⟩:=h
 obtain ⟨a,b,sv,E,S,A,C,k,j,h1,h2,hs,hf,hc,hn1,hn2⟩:=h4 hr
 obtain ⟨⟨x1,x2,x3,x4,x5⟩,x6⟩:=r
 dsimp only at h1 h2 hs hf hc hr
 subst h1 h2 hr
 have hb:Below w.heap.size w (w.alloc (.cells #[.slice none 0 0,.slice none 0 0,.int .i64 0,.slice none 0 0,.slice none 0 0] 32)):=(Below.refl _ _).alloc (Nat.le_refl _) _
 have hbox:(w.alloc (.cells #[.slice none 0 0,.slice none 0 0,.int .i64 0,.slice none 0 0,.slice none 0 0] 32)).heap[w.heap.size]? = some (.cells #[.slice none 0 0,.slice none 0 0,.int .i64 0,.slice none 0 0,.slice none 0 0] 32 (0,0)):=heap_alloc_new _ _
 have hs1:=(hb.block mb (aAa hs)).trans hs
 have c5:=cell_of_row _ _ 5 _ _ _ hs1
 have c6:=cell_of_row _ _ 6 _ _ _ hs1
 have c7:=cell_of_row _ _ 7 _ _ _ hs1
 have c8:=cell_of_row _ _ 8 _ _ _ hs1
 have c9:=cell_of_row _ _ 9 _ _ _ hs1
 have HF:=hid hf
 have HC:=hid hc
 have HN:=hid (And.intro hn1 hn2)
 have hml:=aAa hs
 clear hf hc hs hs1 h4 hn1 hn2
 go_enter Tryz.func37,Tryz.ntmps37
 go_wp2_with (refine wpList_store_row rfl 32 (.tmp 6) (.tmp 19) rfl w.heap.size #[.slice none 0 0,.slice none 0 0,.int .i64 x3,.slice A x4.length k,.slice C x5.length j] rfl rfl _ _ hbox aCp rfl (by simp[Value.oneCell']) ?_)
 try simp only[Exit.inBlock,Exit.then]
 refine bodyPost_ret (aAm rfl _ _ w.heap.size _ _ (0,0) _ rfl (setRow_heap _ _ _ _ _ _ hbox) Tryz.underlying32 rfl aCp) rfl ?_
 have hbb:=aAj (cs:=#[.slice none 0 0,.slice none 0 0,.int .i64 x3,.slice A x4.length k,.slice C x5.length j]) hb (Nat.le_refl _)
 exact ⟨hbb,none,none,A,C,0,0,k,j,[],[],rfl,rfl,rfl,RdFl.none_ _ _,RdM.none_ _ _,HF.out.to hbb hbb.size,HC.out.to hbb hbb.size,(fun _ h=>by cases h),(fun _ h=>by cases h),HN.out.1,HN.out.2,(fun _ h=>by cases h),fun _ h=>by cases h⟩
theorem aZw (A1 A2:Option Addr)(n1 c1 n2 c2:Nat)(x:Int)(w:World):(Instr.build 32 #[(0,.slice A1 n1 c1),(1,.slice A2 n2 c2),(2,.int .i64 x)]).run Tryz.prog w=.ok (.agg #[.slice A1 n1 c1,.slice A2 n2 c2,.int .i64 x,.slice none 0 0,.slice none 0 0]) w:=by
 go_simp
theorem bEe {α:Type}{f:α->List Value}{sz:Nat}(hf:∀a,(f a).length=sz){w:World}{B n c l:Nat}{A:Option Addr}{xs:List α}(h:Rd w B sz A n c (xs.flatMap f))(hx:xs.length=n)(hl:l<=n) :
  ∃A',sliced A l n c sz=.slice A' (n-l) (c-l)/\Rd w B sz A' (n-l) (c-l) ((xs.drop l).flatMap f):=by
 refine ⟨_,rfl,?_⟩
 have:=h.cut hl (Nat.le_refl n)
 rw[T.flat_take hf,T.flat_drop hf,List.take_of_length_le (by omega)] at this
 exact this
theorem bAx {Z:List Nat}{w0 w:World}{mb E S:Nat}{sv fv kv:Value}{fl:List FLV}{ms:List MV}(h:Mov Z w0 w mb E S sv fv kv fl ms)(hE:E<=fl.length)(hS:S<=ms.length)(hfl:fl.length<=1000000)(hms:ms.length<=1000000) :
  Calls Tryz.prog 37 #[.pointer (some ⟨mb,0,none⟩),.bool true,.int .i64 0] w (MovedIs Z w0.heap.size (⟨(fl.map FLV.pl).drop E,(ms.map MV.pl).drop S,-1,[],[]⟩,0) w):=by
 obtain ⟨A,c,efv,hrf⟩:=h.rdFl
 obtain ⟨AK,ck,ekv,hrk⟩:=h.rdM
 subst efv ekv
 obtain ⟨W,eW⟩:∃W,W=w.alloc (.cells #[.slice none 0 0,.slice none 0 0,.int .i64 0,.slice none 0 0,.slice none 0 0] 32):=⟨_,rfl⟩
 have hb:Below w.heap.size w W:=by rw[eW];exact (Below.refl _ _).alloc (Nat.le_refl _) _
 have hbox:W.heap[w.heap.size]? = some (.cells #[.slice none 0 0,.slice none 0 0,.int .i64 0,.slice none 0 0,.slice none 0 0] 32 (0,0)):=by rw[eW];exact heap_alloc_new _ _
 have HB:=hid hb
 have HBX:=hid hbox
 have HS:=hid h.hs
 have hW0:=h.bel.size
 have HPP:=hid (And.intro h.pf h.pk)
 obtain ⟨A1,eA1,hc1⟩:=bEe FLV.cells_len hrf.row rfl hE
 obtain ⟨A2,eA2,hc2⟩:=bEe MV.cells_len hrk.row rfl hS
 have HC1:=hid hc1
 have HC2:=hid hc2
 have HP1:=hid hrf.parts
 have HP2:=hid hrk.parts
 clear h hrf hrk hb hbox hc1 hc2
 go_enter Tryz.func37,Tryz.ntmps37
 go_wp2
 rw[<-eW]
 clear eW
 refine aAh (fun u=>Below w.heap.size w u) [(true,0),(true,1),(true,2),(true,3),(true,4),(true,5),(true,6),(true,7),(true,8),(true,10),(true,11),(true,12),(true,13),(true,14),(true,15),(true,16),(true,17),(true,18),(false,9),(false,19),(false,20),(false,21),(true,22)] mixed (by kernel_rfl) HB.out.drew ?_
 intro T M Q hT hT' hM hQ
 have m0:M ⟨mb,0,none⟩=some (.slice A fl.length c):=hM _ _ fun w' hw=>(hw.cell (p:=⟨mb,0,none⟩) (aAa HS.out)).trans (by rw[Lib.cell_of_heap HS.out];rfl)
 have m1:M ⟨mb,1,none⟩=some (.slice AK ms.length ck):=hM _ _ fun w' hw=>(hw.cell (p:=⟨mb,1,none⟩) (aAa HS.out)).trans (by rw[Lib.cell_of_heap HS.out];rfl)
 have m2:M ⟨mb,2,none⟩=some (.int .i64 E):=hM _ _ fun w' hw=>(hw.cell (p:=⟨mb,2,none⟩) (aAa HS.out)).trans (by rw[Lib.cell_of_heap HS.out];rfl)
 have m3:M ⟨mb,3,none⟩=some (.int .i64 S):=hM _ _ fun w' hw=>(hw.cell (p:=⟨mb,3,none⟩) (aAa HS.out)).trans (by rw[Lib.cell_of_heap HS.out];rfl)
 clear hM
 simp only[qcmp]
 simp (maxSteps:=9^7) only[↓qpre,aAb,aAe,aAc,m0,m1,m2,m3]
 clear m0 m1 m2 m3
 rw[eA1,eA2]
 refine ⟨⟨by omega,by omega⟩,⟨by omega,by omega⟩,?_⟩
 have hd:Below w.heap.size w W.drew:=HB.out.drew
 have hbd:Below W.heap.size W W.drew:=(Below.refl _ _).drew
 refine aAi (by kernel_rfl) (aLk (by omega) (HC1.out.to hd hd.size) (aFa _)) rfl rfl ?_
 rintro e w1 ⟨v1,rfl,ho1,hb1⟩
 obtain ⟨A3,c3,rfl,hcc3⟩:=aAd ho1
 have hd1:Below w.heap.size w w1:=hd.trans (hb1.mono hd.size)
 refine ⟨_,rfl,hT _ hd1,?_⟩
 simp (maxSteps:=9^7) only[aAb,aAc]
 refine aAi (by kernel_rfl) (aMk (by omega) (HC2.out.to hd1 hd1.size) (aLr _)) rfl rfl ?_
 rintro e w2 ⟨v2,rfl,ho2,hb2⟩
 obtain ⟨A4,c4,rfl,hcc4⟩:=aAd ho2
 have hd2:Below w.heap.size w w2:=hd1.trans (hb2.mono hd1.size)
 refine ⟨_,rfl,hT _ hd2,?_⟩
 simp (maxSteps:=9^7) only[aAb,aAc]
 refine aBz rfl (aZw _ _ _ _ _ _ _ _) ⟨hT _ hd2,?_⟩
 simp (maxSteps:=9^7) only[aAb,aAc]
 have hbx:w2.heap[w.heap.size]? = some (.cells #[.slice none 0 0,.slice none 0 0,.int .i64 0,.slice none 0 0,.slice none 0 0] 32 (0,0)):=
  (hb2.block _ (Nat.lt_of_lt_of_le (aAa HBX.out) (Nat.le_trans hbd.size hb1.size))).trans ((hb1.block _ (Nat.lt_of_lt_of_le (aAa HBX.out) hbd.size)).trans HBX.out)
 have hd3:=aAj (cs:=#[.slice A3 (fl.length-E) c3,.slice A4 (ms.length-S) c4,.int .i64 (-1),.slice none 0 0,.slice none 0 0]) hd2 (Nat.le_refl _)
 refine aAs (cells:=#[.slice A3 (fl.length-E) c3,.slice A4 (ms.length-S) c4,.int .i64 (-1),.slice none 0 0,.slice none 0 0]) rfl rfl hbx aCp rfl (by simp[Value.oneCell']) ⟨hT _ hd3,?_⟩
 simp (maxSteps:=9^7) only[↓qpre,aAb,aAc]
 refine hQ _ _ ?_
 have hrb1:∀g,g<w.heap.size->g∉[w.heap.size]:=fun g hg e=>by rw[List.mem_singleton.1 e] at hg;exact Nat.lt_irrefl _ hg
 have hst:HStay [w.heap.size] w2 (w2.setRow w.heap.size #[.slice A3 (fl.length-E) c3,.slice A4 (ms.length-S) c4,.int .i64 (-1),.slice none 0 0,.slice none 0 0]):=⟨by simp[World.setRow],fun k _ hx=>setRow_other _ _ _ _ (fun e=>hx (by rw[e];simp))⟩
 have hlt:w.heap.size<w1.heap.size:=Nat.lt_of_lt_of_le (aAa HBX.out) (Nat.le_trans hbd.size hb1.size)
 have hr3:=aBd (X:=[w.heap.size]) (Rd.of_own (aAg ho1 hb2) hcc3) (fun a e _ hm=>by
  have h1:=aEu ho1 a e
  have h2:=Nat.lt_of_lt_of_le (aAa HBX.out) hbd.size
  rw[List.mem_singleton.1 hm] at h1;omega) hst.keeps
 have hr4:=aBd (X:=[w.heap.size]) (Rd.of_own ho2 hcc4) (fun a e _ hm=>by
  have h1:=aEu ho2 a e
  rw[List.mem_singleton.1 hm] at h1;omega) hst.keeps
 have HR3:=hid hr3
 have HN3:=hid (fun a (e:A3=some a)=>Nat.le_trans (Nat.le_trans hW0 hd.size) (aEu ho1 a e))
 have HN4:=hid (fun a (e:A4=some a)=>Nat.le_trans (Nat.le_trans hW0 hd1.size) (aEu ho2 a e))
 have HR4:=hid hr4
 have HD3:=hid hd3
 have HB3:=hid (setRow_heap _ _ _ #[.slice A3 (fl.length-E) c3,.slice A4 (ms.length-S) c4,.int .i64 (-1),.slice none 0 0,.slice none 0 0] _ _ hbx)
 clear hQ hT hT' hd hbd ho1 hb1 hd1 ho2 hb2 hd2 hbx hd3 hrb1 hst hlt hr3 hr4 hcc3 hcc4
 clear T M Q
 generalize World.setRow _ _ _=U at *
 go_wp2
 refine bodyPost_ret (aAm rfl _ _ w.heap.size _ _ (0,0) _ rfl HB3.out Tryz.underlying32 rfl aCp) rfl ?_
 have l1:(fl.drop E).length=fl.length-E:=List.length_drop
 have l2:(ms.drop S).length=ms.length-S:=List.length_drop
 refine ⟨HD3.out,A3,A4,none,none,c3,c4,0,0,fl.drop E,ms.drop S,by rw[List.map_drop],by rw[List.map_drop],by rw[l1,l2];rfl,⟨by rw[l1];exact HR3.out,rfl,fun f hf=>?_⟩,⟨by rw[l2];exact HR4.out,rfl,fun m hm=>?_⟩,RdF.none_ _ _,Rd.none_ _ _ _,HN3.out,HN4.out,(fun _ h=>by cases h),(fun _ h=>by cases h),(fun f hf a e hn hm=>(HPP.out.1 f (List.mem_of_mem_drop hf)).files.2 a e hn (aBg.2 (.inr (.inr (.inr hm))))),fun m hx a e hn hm=>(HPP.out.2 m (List.mem_of_mem_drop hx)).off a e hn (aBg.2 (.inr (.inr (.inr hm))))⟩
 ·obtain ⟨p1,p2⟩:=HP1.out f (List.mem_of_mem_drop hf)
  exact ⟨p1.to HD3.out HD3.out.size,p2⟩
 obtain ⟨p1,p2⟩:=HP2.out m (List.mem_of_mem_drop hm)
 exact ⟨p1.to HD3.out HD3.out.size,p2⟩
theorem wideM:(match Tryz.prog.underlying 125 with | some (.array _ _) | some (.struct _)=>true | _=>false)=true:=by kernel_rfl
theorem KMv:Maps.Keyed Tryz.prog 125:=Maps.Keyed.of_law (deep_law_laid T.laidOut (m:=2) (by omega) (of_decide_eq_true (by kernel_rfl)) (by kernel_rfl) wideM)
theorem bIn {x:Int}(h:I64 x):(Lit.int .i64 x).wf=true:=by
 obtain ⟨h1,h2⟩:=h
 simp[Lit.wf,bCb]
 omega
def klM (x:Int):Lit:=.string (keyBytes [.int .i64 x])
theorem bFo {P : Program} {t e : TypeId} {f : Field} (hu : P.underlying t = some (.struct #[f])) (hft : f.type = e) (hfo : f.offset = 0) (hfn : (f.name != "_") = true) (hct : P.cellsOf t = 1) (hce : P.cellsOf e = 1)
  (hue:P.underlying e=some (.int .i64)) (hk:P.keyType t=true) (hp:0<P.types.size) {x:Int} (hw:(Lit.int .i64 x).wf=true):keyOf P t (.agg #[.int .i64 x])=some (klM x):=by
 obtain ⟨k,hs⟩:∃k,P.types.size=k+1:=⟨P.types.size-1,by omega⟩
 have h1:P.keyLits (k+1) e [.int .i64 x]=some [.int .i64 x]:=by simp[Program.keyLits,hue,hw]
 have h2:P.keyLits (k+1+1) t [.int .i64 x]=some [.int .i64 x]:=by
  unfold Program.keyLits
  simp only[hu]
  have hfn' : ¬ f.name = "_" := by simpa using hfn
  simp[hct,hft,hfo,hce,h1,hfn']
 simp[keyOf,hu,hk,Value.formed,hct,Value.cells,hs,h2,klM]
theorem bEf:Tryz.prog.keyType 125=true:=by kernel_rfl
theorem cellsM:Tryz.prog.cellsOf 125=1:=by kernel_rfl
theorem keyM {x:Int}(h:I64 x):keyOf Tryz.prog 125 (.agg #[.int .i64 x])=some (klM x):=
 bFo Tryz.underlying125 rfl rfl rfl cellsM aMn Tryz.underlying3 bEf T.types_pos (bIn h)
theorem bHx {x y:Int}(hx:I64 x)(hy:I64 y)(h:x≠y):klM x≠klM y:=fun e=>by
 have h1:=keyM hx
 rw[e] at h1
 have:=KMv.inj h1 (keyM hy)
 simp at this
 exact h this
theorem aOg (x:Int)(w:World):(Instr.build 125 #[(0,.int .i64 x)]).run Tryz.prog w=.ok (.agg #[.int .i64 x]) w:=by
 go_simp
structure MpM (w:World) (b n:Nat) (D:DataW Value) (F:Int->Option Int):Prop where
 own:w.ownsMap Tryz.prog 125 Rv b n D
 at_:∀x:Int,I64 x->D.atKey (klM x) (.held (.int .i64 0))=.held (.int .i64 ((F x).getD 0))
 has:∀x:Int,I64 x->Maps.has D (klM x)=(F x).isSome
theorem MpM.start (w:World):MpM (w.alloc (.map #[] 0)) w.heap.size 0 (.map []) (fun _=>none):=
 ⟨World.ownsMap_made _ _ _ _,fun _x _=>rfl,fun _x _=>rfl⟩
theorem MpM.put {w w':World}{b n:Nat}{D:DataW Value} {F F':Int->Option Int}{k v:Int}(h:MpM w b n D F)(hk:I64 k)
  (hown:w'.ownsMap Tryz.prog 125 Rv b (n+1) (D.put (klM k) (.held (.int .i64 v)))) (hF:∀x,F' x=if x=k then some v else F x) :
  MpM w' b (n+1) (D.put (klM k) (.held (.int .i64 v))) F':=by
 refine ⟨hown,fun x hx=>?_,fun x hx=>?_⟩
 ·by_cases e:x=k
  ·subst e
   rw[Maps.atKey_put_same h.own.isMap (KMv.key (keyM hk)),hF,if_pos rfl];rfl
  rw[Maps.atKey_put_other (bHx hx hk e),h.at_ x hx,hF,if_neg e]
 by_cases e:x=k
 ·subst e
  rw[Maps.has_put_same h.own.isMap (KMv.key (keyM hk)),hF,if_pos rfl];rfl
 rw[Maps.has_put_other (bHx hx hk e),h.has x hx,hF,if_neg e]
theorem MpM.same {w w':World}{b n:Nat}{D:DataW Value}{F:Int->Option Int}(h:MpM w b n D F)(hs:w'.heap[b]? = w.heap[b]?):MpM w' b n D F:=by
 obtain ⟨⟨es,clock,hb,F,hs2,hD⟩,h2,h3⟩:=h
 exact ⟨⟨es,clock,hs.trans hb,F,hs2,hD⟩,h2,h3⟩
theorem MpM.block {w:World}{b n:Nat}{D:DataW Value}{F:Int->Option Int}(h:MpM w b n D F):∃es ck,w.heap[b]? = some (.map es ck):=by
 obtain ⟨⟨es,clock,hb,_⟩,_⟩:=h
 exact ⟨es,clock,hb⟩
theorem MpM.look {w:World}{b n:Nat}{D:DataW Value}{F:Int->Option Int}(h:MpM w b n D F){x:Int}(hx:I64 x) :
  (Instr.lookup 122 (.map (some b)) (.agg #[.int .i64 x]) true).run Tryz.prog w=.ok (.tuple #[.int .i64 ((F x).getD 0),.bool (F x).isSome]) w:=by
 obtain ⟨v,ps,hrun,hv⟩:=h.own.look_ok KMv Tryz.underlying122 (Tryz.zeroValue3 w) (show Rv (.int .i64 0)=some (.held (.int .i64 0),[]) from rfl) (keyM hx)
 rw[h.at_ x hx] at hv
 rw[h.has x hx] at hrun
 have:v=.int .i64 ((F x).getD 0):=by
  have h1:(DataW.held v:DataW Value)=.held (.int .i64 ((F x).getD 0)):=by
   have:=hv
   simp only[Rv,Option.some.injEq,Prod.mk.injEq] at this
   exact this.1
  exact aGc h1
 rw[this] at hrun
 exact hrun
theorem aMz {w:World}{B sz n c:Nat}{A:Option Addr}{xs:List Value}{b:Nat}{es:Array MapEntry}{ck:Nat}(h:Rd w B sz A n c xs)(h0:0<xs.length)(hb:w.heap[b]? = some (.map es ck)):∀a,A=some a->a.block≠b:=by
 intro a e e2
 have hn:0<n:=by
  rcases Nat.eq_zero_or_pos n with h1 | h1
  ·rw[h.len,h1,Nat.zero_mul] at h0;exact absurd h0 (Nat.lt_irrefl _)
  exact h1
 obtain ⟨b',o,e3,_,hc⟩:=h.at_ hn
 rw[e] at e3
 cases e3
 have h1:=hc 0 _ (List.getElem?_eq_getElem h0)
 unfold World.cell? at h1
 dsimp only at h1 e2
 rw[e2,hb] at h1
 cases h1
def ROff (w:World)(X:List Nat)(A:Option Addr)(n c:Nat)(l:List Int):Prop:=Rd w w.heap.size 1 A n c (l.map (.int .i64))/\∀a,A=some a->0<n->a.block∉X
theorem ROff.keep {w w':World}{X:List Nat}{A:Option Addr}{n c:Nat}{l:List Int}(h:ROff w X A n c l)(hk:HStay X w w'):ROff w' X A n c l:=⟨aBd h.1 h.2 hk.keeps,h.2⟩
theorem ROff.less {w:World}{X Y:List Nat}{A:Option Addr}{n c:Nat}{l:List Int}(h:ROff w X A n c l)(hm:∀b∈Y,b∈X\/w.heap.size<=b):ROff w Y A n c l:=⟨h.1,aKu h.1 h.2 hm⟩
theorem ROff.next {w w':World}{X Y:List Nat}{A:Option Addr}{n c:Nat}{l:List Int}(h:ROff w X A n c l)(hst:HStay X w w')(hx:∀g∈Y,g∈X\/w.heap.size<=g):ROff w' Y A n c l:=⟨aBd h.1 h.2 hst.keeps,aKu h.1 h.2 hx⟩
theorem Mov.offMap {Z:List Nat}{w0 w:World}{mb E S:Nat}{sv fv kv:Value}{fl:List FLV}{ms:List MV}(h:Mov Z w0 w mb E S sv fv kv fl ms){b:Nat}{es:Array MapEntry}{ck:Nat}(hb:w.heap[b]? = some (.map es ck)):Off w (b::Xs Z mb fv kv) fl ms:=by
 refine ⟨fun f hf=>?_,fun m hm=>?_⟩
 ·obtain ⟨⟨p1,p2⟩,p3,p4,p5⟩:=h.pf f hf
  refine ⟨⟨p1,fun a e hn hm=>?_⟩,p3,p4,p5⟩
  rcases List.mem_cons.1 hm with h1 | h1
  ·exact aMz p1.row (by rw[p1.row.len];omega) hb a e h1
  exact p2 a e hn h1
 obtain ⟨p1,p2,p3,p4,p5⟩:=h.pk m hm
 refine ⟨p1,fun a e hn hm=>?_,p3,p4,p5⟩
 rcases List.mem_cons.1 hm with h1 | h1
 ·exact aMz p1 (by rw[p1.len];omega) hb a e h1
 exact p2 a e hn h1
theorem ROff.map {w:World}{X:List Nat}{A:Option Addr}{n c:Nat}{l:List Int}(h:ROff w X A n c l){b:Nat}{es:Array MapEntry}{ck:Nat}(hb:w.heap[b]? = some (.map es ck)):ROff w (b::X) A n c l:=
 ⟨h.1,fun a e hn hm=>by
  rcases List.mem_cons.1 hm with h1 | h1
  ·exact aMz h.1 (by rw[h.1.len];omega) hb a e h1
  exact h.2 a e hn h1⟩
def MvAll (Z:List Nat)(w0:World)(mb E S:Nat)(sv:Value)(n:Nat)(ms:List MV)(r:Except (MR×Int) (List FL×List (Int×List Int)))(e:Ending) (w':World):Prop:=
 match r with
 | .error x=>StopIs w0 mb x e w'
 | .ok (l',k)=>e=.returned (.tuple #[.bool true,.int .i64 0])/\∃(fv' kv':Value) (fl':List FLV) (ms':List MV),fl'.map FLV.pl=l'/\ms'.map MV.pl=ms.map MV.pl++k/\Mov Z w0 w' mb E S sv fv' kv' fl' ms'/\n<=fl'.length/\fl'.length<=2*n/\ms'.length<=ms.length+n
theorem bHe {l m:List Int}{c:Int}(hc:0<=c)(hl:c<l.length):par (l++m) c=par l c:=by
 unfold par;rw[List.getElem?_append_left (by omega)]
structure AllAt (s:List SettL) (dest:Int) (fl:List FLV) (ms:List MV) (lv:List Int) (k:Nat) (fl':List FLV) (ms':List MV) (now:List (Int×Int)) (kk:List (Int×List Int)):Prop where
 run:runF' s (parF (fl.map FLV.pl)) dest lv [] (fl.map FLV.pl) []=runF' s (parF (fl.map FLV.pl)) dest (lv.drop k) now (fl'.map FLV.pl) kk
 len:fl'.length=fl.length+k
 mlen:ms'.length=ms.length+k
 mks:ms'.map MV.pl=ms.map MV.pl++kk
 pre:∃t,fl'=fl++t
 now:∀p v,now.lookup p=some v->0<=v/\v<fl'.length
theorem AllAt.start (s:List SettL)(dest:Int)(fl:List FLV)(ms:List MV)(lv:List Int):AllAt s dest fl ms lv 0 fl ms [] []:=
 ⟨by rw[List.drop_zero],rfl,rfl,(List.append_nil _).symm,⟨[],(List.append_nil _).symm⟩,fun p v h=>by cases h⟩
theorem AllAt.stop {s:List SettL}{dest:Int}{fl:List FLV}{ms:List MV}{lv:List Int}{k:Nat} {fl':List FLV} {ms':List MV}{now:List (Int×Int)}{kk:List (Int×List Int)}(h:AllAt s dest fl ms lv k fl' ms' now kk){c:Int}(hc:lv[k]? = some c){x:MR×Int}
  (hx:oneOn s (fl'.map FLV.pl) c (nowF now dest (par (parF (fl.map FLV.pl)) c))=.error x):runF' s (parF (fl.map FLV.pl)) dest lv [] (fl.map FLV.pl) []=.error x:=by
 obtain ⟨hk,e⟩:=List.getElem?_eq_some_iff.1 hc
 rw[h.run,List.drop_eq_getElem_cons hk,e,runF',hx]
theorem AllAt.next {s:List SettL}{dest:Int}{fl:List FLV}{ms:List MV}{lv:List Int}{k:Nat} {fl':List FLV} {ms':List MV}{now:List (Int×Int)}{kk:List (Int×List Int)}(h:AllAt s dest fl ms lv k fl' ms' now kk){c:Int}(hc:lv[k]? = some c){f:FLV}{m:MV} {l':List FL}
  (hx:oneOn s (fl'.map FLV.pl) c (nowF now dest (par (parF (fl.map FLV.pl)) c))=.ok l') (hl:l'=fl'.map FLV.pl++[f.pl]) (hm:m.old=c) (hm2:m.new=[(fl'.length:Int)]) :
  AllAt s dest fl ms lv (k+1) (fl'++[f]) (ms'++[m]) ((c,(fl'.length:Int))::now) (kk++[(c,[(fl'.length:Int)])]):=by
 obtain ⟨hk,e⟩:=List.getElem?_eq_some_iff.1 hc
 obtain ⟨t,ht⟩:=h.pre
 refine ⟨?_,by rw[List.length_append,h.len];rfl,by rw[List.length_append,h.mlen];rfl,?_,⟨t++[f],by rw[ht,List.append_assoc]⟩,fun p v hv=>?_⟩
 ·rw[h.run,List.drop_eq_getElem_cons hk,e,runF',hx]
  dsimp only
  rw[hl,List.map_append,List.length_map];rfl
 ·rw[List.map_append,h.mks,List.append_assoc]
  simp[MV.pl,hm,hm2]
 rw[List.length_append,List.length_singleton]
 rw[List.lookup_cons] at hv
 split at hv
 ·injection hv with hv;omega
 have:=h.now p v hv;omega
theorem AllAt.par {s:List SettL}{dest:Int}{fl:List FLV}{ms:List MV}{lv:List Int}{k:Nat} {fl':List FLV} {ms':List MV}{now:List (Int×Int)}{kk:List (Int×List Int)}(h:AllAt s dest fl ms lv k fl' ms' now kk){c:Int}(h0:0<=c)(h1:c<fl.length):par (parF (fl'.map FLV.pl)) c=par (parF (fl.map FLV.pl)) c:=by
 obtain ⟨t,ht⟩:=h.pre
 rw[ht,List.map_append]
 unfold parF
 rw[List.map_append]
 exact bHe h0 (by simpa using h1)
theorem aCo (fl:List FLV):(parF (fl.map FLV.pl)).length=fl.length:=by unfold parF;simp
theorem bHc (fl:List FLV):parF (fl.map FLV.pl)=fl.map FLV.parent:=by unfold parF;rw[List.map_map];rfl
theorem bFh {Z:List Nat}{w0 w:World}{mb E S n sc:Nat}{SA:Option Addr}{fv kv:Value}{fl:List FLV}{ms:List MV}{sl:List STV}{source dest:Int}(hL:Lm w0)(h:Mov Z w0 w mb E S (.slice SA n sc) fv kv fl ms)(hfl:fl.length<=2000)(hms:ms.length<=50000)
  (hn:n<=maxLen) (hs:RdS w0 w0.heap.size SA n sc sl) (hr:rightP (parF (fl.map FLV.pl))=true) (hs0:0<=source) (hs1:source<fl.length) (hd0:-1<=dest) (hd1:dest<fl.length) :
  Calls Tryz.prog 38 #[.pointer (some ⟨mb,0,none⟩),.int .i64 source,.int .i64 dest] w (MvAll Z w0 mb E S (.slice SA n sc) fl.length ms (allF (sl.map STV.pl) (moved (parF (fl.map FLV.pl)) ms source) (fl.map FLV.pl) source dest)):=by
 have hmm:=@run_makeMap Tryz.prog
 obtain ⟨A,ca,efv,hrf⟩:=h.rdFl
 have HM:=hid h
 have HR:=hid hr
 have HS:=hid hs
 have HNL:=hid hn
 have hal:allF (sl.map STV.pl) (moved (parF (fl.map FLV.pl)) ms source) (fl.map FLV.pl) source dest=if above (parF (fl.map FLV.pl)) source dest=true then .error (noMR,23)
  else if par (parF (fl.map FLV.pl)) source=dest then .error (noMR,14) else runF' (sl.map STV.pl) (parF (fl.map FLV.pl)) dest (moved (parF (fl.map FLV.pl)) ms source) [] (fl.map FLV.pl) []:=rfl
 have HAL:=hid hal
 have K1:=aLq h.hs (show (movC fv kv E S (.slice SA n sc))[0]? = some (.slice A fl.length ca) by rw[efv];rfl) hrf.row rfl (by omega)
 rw[<-bHc] at K1
 clear h hrf efv hr hs hn hal
 go_enter Tryz.func38,Tryz.ntmps38
 go_wp2_with fail
 refine K1.mono ?_
 rintro e w1 ⟨A4,c4,l4,rfl,r4,hb1,rfl,hn4⟩
 have HM1:=hid (HM.out.below hb1)
 rw[aCo] at r4 ⊢
 have HR4:=hid (show ROff w1 (Xs Z mb fv kv) A4 fl.length c4 (parF (fl.map FLV.pl)) from ⟨r4,fun a e _ hm=>by
  rcases hn4 a e with ⟨_,h⟩ | h
  ·exact absurd h (Nat.lt_irrefl _)
  exact HM.out.new h hm⟩)
 have K2:=bAc (l:=parF (fl.map FLV.pl)) (a:=source) (b:=dest) (by rw[aCo];omega) (by rw[aCo];exact r4)
 rw[aCo] at K2
 clear K1 hb1 hn4 r4
 go_wp2_with fail
 refine K2.mono ?_
 rintro e w2 ⟨rfl,hb2⟩
 have HM2:=hid (HM1.out.below hb2)
 have HR2:=hid (HR4.out.keep (HStay.of_below hb2))
 clear K2 hb2 HM1 HR4
 cases ha:above (parF (fl.map FLV.pl)) source dest with
 | true=>
  rw[if_pos ha] at HAL
  clear ha
  go_wp2
  go_ret2
  rw[HAL.out]
  exact ⟨HM2.out.bel,rfl,fun _=>rfl,fun e=>absurd e (by decide)⟩
 | false=>
  rw[if_neg (by rw[ha];decide)] at HAL
  clear ha
  obtain ⟨s',rfl⟩:∃k:Nat,source=(k:Int):=⟨source.toNat,by omega⟩
  obtain ⟨b4,o4,p4,eA4,hbb4,hx4,g4⟩:=Rd.int_ HR2.out.1 (k:=s') (by omega)
  subst eA4
  have HP4:=hid (aGq hx4)
  clear hx4
  by_cases hpd:p4=dest
  case pos=>
   have HD:=hid (show par (parF (fl.map FLV.pl)) (s':Int)=dest from HP4.out.trans hpd)
   rw[if_pos HD.out] at HAL
   subst hpd
   go_wp2
   go_ret2
   rw[HAL.out]
   exact ⟨HM2.out.bel,rfl,fun _=>rfl,fun e=>absurd e (by decide)⟩
  obtain ⟨hq1,hq2⟩:=aFf hpd
  rw[if_neg (by rw[HP4.out];exact hpd)] at HAL
  obtain ⟨W,eW⟩:∃W,W=w2.alloc (.map #[] 0):=⟨_,rfl⟩
  obtain ⟨b,eb⟩:∃b,b=w2.heap.size:=⟨_,rfl⟩
  have hbW:Below w2.heap.size w2 W:=by rw[eW];exact (Below.refl _ _).alloc (Nat.le_refl _) _
  have HM3:=hid (HM2.out.below hbW)
  have HR3:=hid (HR2.out.keep (HStay.of_below hbW))
  have HMP:=hid (show MpM W b 0 (.map []) (fun _=>none) by rw[eW,eb];exact MpM.start w2)
  have HBX:=hid (show b∉Xs Z mb fv kv from by rw[eb];exact HM2.out.new (Nat.le_refl _))
  have HBL:=hid (show w0.heap.size<=b by rw[eb];exact HM2.out.bel.size)
  obtain ⟨AK,ck,ekv,hrk⟩:=HM3.out.rdM
  have g1:W.cell? ⟨mb,1,none⟩=some (.slice AK ms.length ck):=by rw[Lib.cell_of_heap HM3.out.hs,<-ekv];rfl
  have gml:=aAa HM3.out.hs
  have K5:=bFb (l:=parF (fl.map FLV.pl)) (s:=(s':Int)) (by rw[aCo];omega) (by rw[aCo];exact HR3.out.1) (by unfold maxLen;omega) hrk
  rw[aCo] at K5
  clear ekv hrk hbW HM2 HR2 hpd
  rw[eW] at g1 gml K5
  go_wp2_with fail
  rw[<-eW] at K5 ⊢
  rw[<-eb]
  clear g1 gml eW eb
  refine K5.mono ?_
  rintro e w4 ⟨A5,c5,lv,rfl,r5,hb5,elv,hn5⟩
  have HLI:=hid (show ∀c∈lv,0<=c/\c<fl.length from fun c hc=>by
   rw[elv] at hc
   obtain ⟨⟨_,h1,_⟩,h2,h3,_⟩:=aId.1 hc
   rw[aCo] at h3
   exact ⟨by omega,h3⟩)
  have hll:lv.length<=fl.length:=by
   rw[elv];unfold moved
   split
   ·rw[aCo];exact aEw _ _ _ _
   exact Nat.zero_le _
  replace HAL:=hid (HAL.out.trans (show _=runF' (sl.map STV.pl) (parF (fl.map FLV.pl)) dest lv [] (fl.map FLV.pl) [] by rw[elv]))
  have HM4:=hid (HM3.out.below hb5)
  have HR4:=hid (HR3.out.keep (HStay.of_below hb5))
  have HM0:=hid (HMP.out.same (hb5.block b (by obtain ⟨es,cq,h⟩:=HMP.out.block;exact aAa h)))
  have HR5:=hid (show ROff w4 (Xs Z mb fv kv) A5 lv.length c5 lv from ⟨r5,fun a e _ hm=>by
   rcases hn5 a e with ⟨_,h⟩ | h
   ·exact absurd h (Nat.lt_irrefl _)
   exact HM3.out.new h hm⟩)
  have HAT:=hid (AllAt.start (sl.map STV.pl) dest fl ms lv)
  clear K5 r5 hb5 hn5 elv HM3 HR3 HMP g4 hq1 hq2 HP4 W hbb4
  go_wp2
  go_loopw[39] (fun iv wr=>∃(k:Nat) (fv' kv':Value) (fl':List FLV) (ms':List MV) (now:List (Int×Int)) (kk:List (Int×List Int)) (D:DataW Value),k<=lv.length/\iv=.int .i64 k/\Hid (Mov Z w0 wr mb E S (.slice SA n sc) fv' kv' fl' ms')/\Hid (MpM wr b k D (fun x=>now.lookup x))/\Hid (b∉Xs Z mb fv' kv')/\
   Hid (ROff wr (Xs Z mb fv' kv') (some ⟨b4,o4,none⟩) fl.length c4 (parF (fl.map FLV.pl)))/\Hid (ROff wr (Xs Z mb fv' kv') A5 lv.length c5 lv)/\Hid (AllAt (sl.map STV.pl) dest fl ms lv k fl' ms' now kk)) (fun iv _=>lv.length-(intOf iv).toNat)
  case atStart=>exact ⟨0,fv,kv,fl,ms,[],[],.map [],Nat.zero_le _,rfl,HM4.out,HM0.out,HBX.out,HR4.out,HR5.out,HAT.out⟩
  clear HM4 HM0 HBX HR4 HR5 HAT HM
  obtain ⟨k,fv',kv',fl',ms',now,kk,D,hk,rfl,hM,hP,hX,hR4,hR5,hA⟩:=hrel
  by_cases hlt:k<lv.length
  ·obtain ⟨b5,o5,c,eA5,hbb5,hx5,g5⟩:=Rd.int_ hR5.out.1 hlt
   subst eA5
   obtain ⟨hc0,hc1⟩:=HLI.out c (List.mem_of_getElem? hx5)
   obtain ⟨c',rfl⟩:∃k:Nat,c=(k:Int):=⟨c.toNat,by omega⟩
   have HC:=hid hx5
   obtain ⟨b4',o4',p,eA4,hbb4,hx4,g4⟩:=Rd.int_ hR4.out.1 (k:=c') (by omega)
   cases eA4
   have HPA:=hid (aGq hx4)
   have hpr:-1<=p/\p<(c':Int):=by rw[<-HPA.out];exact aBh HR.out (by omega) (by rw[aCo];exact hc1)
   obtain ⟨hp0,hp1⟩:=hpr
   have hlook:=hP.out.look (x:=p) (by unfold I64;omega)
   have hz1:=aOg p wr
   have hz2:=aOg (c':Int) wr
   obtain ⟨AF,cf,efv,hrf⟩:=hM.out.rdFl
   have g0:wr.cell? ⟨mb,0,none⟩=some (.slice AF fl'.length cf):=by rw[Lib.cell_of_heap hM.out.hs,<-efv];rfl
   have gml:=aAa hM.out.hs
   have HLN:=hid hA.out.len
   have HLM:=hid hA.out.mlen
   have hln:fl'.length<=4000:=by have:=HLN.out;omega
   clear hx5 hx4 hrf efv
   cases hq:now.lookup p
   case' none=>
    have HOO:=hid (show nowF now dest p=dest by unfold nowF;rw[hq];rfl)
    have H0:=hid hd0
    have H1:=hid (show dest<fl'.length by have:=HLN.out;omega)
    obtain ⟨r,hO⟩:∃r,r=oneOn (sl.map STV.pl) (fl'.map FLV.pl) (c':Int) dest:=⟨_,rfl⟩
    rw[hq] at hlook
    simp only[Option.getD_none,Option.isSome_none] at hlook
   case' some v=>
    have HOO:=hid (show nowF now dest p=v by unfold nowF;rw[hq];rfl)
    have H0:=hid (show -1<=v by have:=(hA.out.now p v hq).1;omega)
    have H1:=hid (hA.out.now p v hq).2
    obtain ⟨r,hO⟩:∃r,r=oneOn (sl.map STV.pl) (fl'.map FLV.pl) (c':Int) v:=⟨_,rfl⟩
    rw[hq] at hlook
    simp only[Option.getD_some,Option.isSome_some] at hlook
   all_goals
    have HX:=hid (show oneOn (sl.map STV.pl) (fl'.map FLV.pl) (c':Int) (nowF now dest (par (parF (fl.map FLV.pl)) c'))=r by rw[HPA.out,HOO.out];exact hO.symm)
    have K:=fun (w5:World) (h5:Mov Z w0 w5 mb E S (.slice SA n sc) fv' kv' fl' ms')=>bHz (c:=(c':Int)) hL h5 (by omega) (by have:=HLM.out;omega) HNL.out HS.out hc0 (by have:=HLN.out;omega) (by rw[hA.out.par hc0 hc1,HPA.out];have:=HLN.out;omega) H0.out H1.out
    simp only[<-hO] at K
    have HK:=hid K
    clear K hO hq
    go_wp2_with (at_mapUpdate;refine wpList_mapUpdate_own _ rfl _ _ _ 122 rfl 125 3 KMv Tryz.underlying122 Rv b k D rfl hP.out.own (by unfold maxLen;omega) _ _ _ rfl rfl (keyM (x:=(c':Int)) (by unfold I64;omega)) _ [] rfl ?_;intro w5 hown5 hg5)
    obtain ⟨es,cq,hbk⟩:=hP.out.block
    have hM5:=hM.out.setOther hg5 hX.out HBL.out (hM.out.offMap hbk)
    have hst5:HStay (b::Xs Z mb fv' kv') wr w5:=HStay.grown hg5 fun g e=>by injection e with e;rw[e];exact List.mem_cons_self ..
    have HP5:=hid (hP.out.put (F':=fun x=>List.lookup x (((c':Int),(fl'.length:Int))::now)) (by unfold I64;omega) hown5 (fun x=>by
     rw[List.lookup_cons]
     by_cases e:x=(c':Int)
     ·subst e;simp
     rw[if_neg e,show (x == (c':Int))=false by simpa using e]))
    have HR45:=hid ((hR4.out.map hbk).keep hst5)
    have HR55:=hid ((hR5.out.map hbk).keep hst5)
    have HZ5:=hid hst5.1
    have HB5:=hid (show b<w5.heap.size from Nat.lt_of_lt_of_le (aAa hbk) hst5.1)
    refine (HK.out w5 hM5).mono ?_
    rintro e w6 hone
    clear hM5 hst5 hown5 hg5 hbk hlook hz1 hz2 g0 gml hP hR4 hR5 HK hM g4 g5 hbb4 hbb5 HPA HOO H0 H1
    cases r with
    | error x=>
     obtain ⟨h1,rfl,h3,h4⟩:=hone
     have HQ:=hid (And.intro h1 (And.intro h3 h4))
     clear h1 h3 h4
     go_wp2
     go_ret2
     rw[HAL.out,hA.out.stop HC.out HX.out]
     exact ⟨HQ.out.1,rfl,HQ.out.2.1,HQ.out.2.2⟩
    | ok l'=>
     obtain ⟨rfl,fv2,kv2,f,m,hl,hm,hm2,hM6,hst,hxs⟩:=hone
     have hbn:b∉Xs Z mb fv2 kv2:=fun e=>by
      rcases hxs b e with h | h
      ·exact hX.out h
      have:=HB5.out;omega
     have HQ:=hid (show Hid (Mov Z w0 w6 mb E S (.slice SA n sc) fv2 kv2 (fl'++[f]) (ms'++[m]))/\Hid (MpM w6 b (k+1) (D.put (klM c') (.held (.int .i64 (fl'.length:Int)))) (fun x=>List.lookup x (((c':Int),(fl'.length:Int))::now)))/\Hid (b∉Xs Z mb fv2 kv2)/\
       Hid (ROff w6 (Xs Z mb fv2 kv2) (some ⟨b4,o4,none⟩) fl.length c4 (parF (fl.map FLV.pl)))/\Hid (ROff w6 (Xs Z mb fv2 kv2) (some ⟨b5,o5,none⟩) lv.length c5 lv)/\Hid (AllAt (sl.map STV.pl) dest fl ms lv (k+1) (fl'++[f]) (ms'++[m]) (((c':Int),(fl'.length:Int))::now) (kk++[((c':Int),[(fl'.length:Int)])])) from
      ⟨hM6,HP5.out.same (hst.2 b HB5.out hX.out),hbn,(HR45.out.less fun g hg=>.inl (List.mem_cons_of_mem _ hg)).next hst hxs,(HR55.out.less fun g hg=>.inl (List.mem_cons_of_mem _ hg)).next hst hxs,hA.out.next HC.out HX.out hl hm hm2⟩)
     clear hl hm hm2 hM6 hst hxs hbn HP5 HR45 HR55 HZ5 HB5 hX hA HX HC HLN HLM
     go_wp2
     go_roundw
     case rel=>exact ⟨k+1,fv2,kv2,fl'++[f],ms'++[m],_,_,_,by omega,by go_num,HQ.out.1,HQ.out.2.1,HQ.out.2.2.1,HQ.out.2.2.2.1,HQ.out.2.2.2.2.1,HQ.out.2.2.2.2.2⟩
     simp[intOf];omega
  have hkn:k=lv.length:=by omega
  have HF:=hid (show runF' (sl.map STV.pl) (parF (fl.map FLV.pl)) dest lv [] (fl.map FLV.pl) []=.ok (fl'.map FLV.pl,kk) by
   rw[hA.out.run,hkn,List.drop_length];rfl)
  have HMK:=hid hA.out.mks
  have HLL:=hid (And.intro hA.out.len hA.out.mlen)
  clear hP hX hR4 hR5 hA
  subst hkn
  go_wp2
  go_ret2
  rw[HAL.out,HF.out]
  exact ⟨rfl,fv',kv',fl',ms',rfl,HMK.out,hM.out,by have:=HLL.out.1;omega,by have:=HLL.out.1;omega,by have:=HLL.out.2;omega⟩
theorem MovedIs.set {rb B:Nat}{r:MR×Int}{w w1:World}{e:Ending}(h:MovedIs [rb] B r w e w1)(hrb:rb<B) :
  ∃(AN AK AF AC:Option Addr) (cn ck cf cc:Nat) (nl:List FLV) (kl:List MV),e=.returned (.tuple #[.agg #[.slice AN nl.length cn,.slice AK kl.length ck,.int .i64 r.1.commit,.slice AF r.1.files.length cf,.slice AC r.1.clashes.length cc],.int .i64 r.2])/\
  ∀(w0:World),(∀cs,Below w0.heap.size w0 (w1.setRow rb cs))->∀cs,MovedIs [] 0 r w0 (.returned (.tuple #[.agg #[.slice AN nl.length cn,.slice AK kl.length ck,.int .i64 r.1.commit,.slice AF r.1.files.length cf,.slice AC r.1.clashes.length cc],.int .i64 r.2])) (w1.setRow rb cs):=by
 obtain ⟨_,AN,AK,AF,AC,cn,ck,cf,cc,nl,kl,h1,h2,h3,r1,r2,r3,r4,n1,n2,n3,n4,z1,z2⟩:=h
 refine ⟨AN,AK,AF,AC,cn,ck,cf,cc,nl,kl,h3,fun w0 hb cs=>?_⟩
 have hst:HStay [rb] w1 (w1.setRow rb cs):=⟨by simp[World.setRow],fun k _ hx=>setRow_other _ _ _ _ (fun e=>hx (by rw[e];simp))⟩
 have hn:∀{A:Option Addr},(∀a,A=some a->B<=a.block)->∀{n:Nat},∀a,A=some a->0<n->a.block∉[rb]:=fun h n a e _ hm=>by
  have:=h a e
  rw[List.mem_singleton.1 hm] at this;omega
 refine ⟨hb cs,AN,AK,AF,AC,cn,ck,cf,cc,nl,kl,h1,h2,rfl,⟨aBd r1.row (hn n1) hst.keeps,rfl,fun f hf=>?_⟩,⟨aBd r2.row (hn n2) hst.keeps,rfl,fun m hm=>?_⟩,
  ⟨aBd r3.row (hn n3) hst.keeps,rfl,r3.fits⟩,aBd r4 (hn n4) hst.keeps,fun _ _=>Nat.zero_le _,fun _ _=>Nat.zero_le _,fun _ _=>Nat.zero_le _,fun _ _=>Nat.zero_le _,fun _ _ _ _ _ h=>(by cases h),fun _ _ _ _ _ h=>(by cases h)⟩
 ·obtain ⟨p1,p2⟩:=r1.parts f hf
  exact ⟨⟨aBd p1.row (z1 f hf) hst.keeps,rfl,p1.fits⟩,p2⟩
 obtain ⟨p1,p2⟩:=r2.parts m hm
 exact ⟨aBd p1 (z2 m hm) hst.keeps,p2⟩
theorem aJq {w:World}{A AK SA:Option Addr}{c ck sn sc:Nat}{l:List FLV}{ms:List MV}{sl:List STV}{source dest:Int}(hL:Lm w)(hn:l.length<=64)(hm:ms.length<=50000)(hsn:sn<=maxLen)
  (r1:RdFl w w.heap.size A l.length c l) (r2:RdM w w.heap.size AK ms.length ck ms) (r3:RdS w w.heap.size SA sn sc sl) :
  Calls Tryz.prog 13 #[.slice A l.length c,.slice AK ms.length ck,.int .i64 source,.int .i64 dest,.slice SA sn sc] w (MovedIs [] 0 (rebaseF (l.map FLV.pl) ms source dest (sl.map STV.pl)) w):=by
 obtain ⟨W,eW⟩:∃W,W=w.alloc (.cells #[.slice none 0 0,.slice none 0 0,.int .i64 0,.slice none 0 0,.slice none 0 0] 32):=⟨_,rfl⟩
 have hbW:Below w.heap.size w W:=by rw[eW];exact (Below.refl _ _).alloc (Nat.le_refl _) _
 have hbox:W.heap[w.heap.size]? = some (.cells #[.slice none 0 0,.slice none 0 0,.int .i64 0,.slice none 0 0,.slice none 0 0] 32 (0,0)):=by rw[eW];exact heap_alloc_new _ _
 have HBX:=hid hbox
 have HBW:=hid hbW
 have HRB:=hid (show rebaseF (l.map FLV.pl) ms source dest (sl.map STV.pl)=if argsOk (l.map FLV.pl) ms source dest=false then (noMR,1)
  else toldF (l.map FLV.pl).length (allF (sl.map STV.pl) (moved (parF (l.map FLV.pl)) ms source) (l.map FLV.pl) source dest) from rfl)
 have HAR:=hid (show argsOk (l.map FLV.pl) ms source dest=(rightL (l.map FLV.pl) ms && (decide (0<=source) && decide (source<((l.map FLV.pl).length:Int))) && !obsM ms source && (decide (-1<=dest) && decide (dest<((l.map FLV.pl).length:Int)))) from rfl)
 rw[List.length_map] at HRB HAR
 have HR2:=hid (r2.to hbW hbW.size)
 have HR3:=hid (r3.to hbW hbW.size)
 have HLW:=hid (hL.to hbW)
 have HSN:=hid hsn
 have KB:=aYh (Z:=[w.heap.size]) (SA:=SA) (sn:=sn) (sc:=sc) (hL.to hbW) (by omega) (by omega) (r1.to hbW hbW.size) (r2.to hbW hbW.size) (fun z hz=>by rw[List.mem_singleton.1 hz];exact aAa hbox)
  (fun f hf a e hn hm=>by
   obtain ⟨b,o,e2,hb,_⟩:=(r1.parts f hf).1.row.at_ hn
   rw[e] at e2;cases e2
   exact Nat.ne_of_lt hb (List.mem_singleton.1 hm))
  (fun m hx a e hn hm=>by
   obtain ⟨b,o,e2,hb,_⟩:=(r2.parts m hx).1.at_ hn
   rw[e] at e2;cases e2
   exact Nat.ne_of_lt hb (List.mem_singleton.1 hm))
 rw[eW] at KB
 clear r1 r2 r3 hbW hbox hL hsn
 go_enter Tryz.func13,Tryz.ntmps13
 go_wp2_with fail
 rw[<-eW] at KB ⊢
 refine KB.mono ?_
 rintro e w1 ⟨hb1,hif⟩
 have HB1:=hid hb1
 have HX1:=hid ((hb1.block _ (aAa HBX.out)).trans HBX.out)
 have HBA:=hid (HBW.out.trans (hb1.mono HBW.out.size))
 clear KB hb1 eW
 cases hrl:rightL (l.map FLV.pl) ms
 case' false=>
  rw[hrl] at hif
  simp only[Bool.false_eq_true,if_false] at hif
  subst hif
  have HE:=hid (show rebaseF (l.map FLV.pl) ms source dest (sl.map STV.pl)=(noMR,1) by rw[HRB.out,if_pos (by rw[HAR.out,hrl];rfl)])
  clear hrl
 case' true=>
  rw[hrl] at hif HAR
  simp only[if_true] at hif
  obtain ⟨mb,fv,kv,rfl,hM⟩:=hif
  rw[Bool.true_and] at HAR
  by_cases c1:source<0
  case' pos=>
   have HE:=hid (show rebaseF (l.map FLV.pl) ms source dest (sl.map STV.pl)=(noMR,1) by rw[HRB.out,if_pos (by rw[HAR.out,decide_eq_false (by omega:¬0<=source)];rfl)])
   clear hM hrl
  case' neg=>
   by_cases c2:(l.length:Int)<=source
   case' pos=>
    have HE:=hid (show rebaseF (l.map FLV.pl) ms source dest (sl.map STV.pl)=(noMR,1) by rw[HRB.out,if_pos (by rw[HAR.out,decide_eq_false (by omega:¬source<(l.length:Int)),Bool.and_false];rfl)])
    clear hM hrl
   case' neg=>
    rw[decide_eq_true (by omega:0<=source),decide_eq_true (by omega:source<(l.length:Int)),Bool.and_self,Bool.true_and] at HAR
    have HM:=hid hM
    have HRL:=hid hrl
    have K2:=aSr (x:=source) (by unfold maxLen;omega) (HR2.out.to HB1.out HB1.out.size)
    clear hM hrl
    go_wp2_with fail
    refine K2.mono ?_
    rintro e w2 ⟨rfl,hb2⟩
    replace HBA:=hid (HBA.out.trans (hb2.mono HBA.out.size))
    replace HX1:=hid ((hb2.block _ (aAa HX1.out)).trans HX1.out)
    replace HB1:=hid (HB1.out.trans (hb2.mono HB1.out.size))
    replace HM:=hid (HM.out.below hb2)
    clear K2 hb2
    cases ho:obsM ms source
    case' true=>
     have HE:=hid (show rebaseF (l.map FLV.pl) ms source dest (sl.map STV.pl)=(noMR,1) by rw[HRB.out,if_pos (by rw[HAR.out,ho];rfl)])
     clear ho HM HRL
    case' false=>
     rw[ho,Bool.not_false,Bool.true_and] at HAR
     clear ho
     by_cases c3:dest < -1
     case' pos=>
      have HE:=hid (show rebaseF (l.map FLV.pl) ms source dest (sl.map STV.pl)=(noMR,1) by rw[HRB.out,if_pos (by rw[HAR.out,decide_eq_false (by omega:¬-1<=dest)];rfl)])
      clear HM HRL
     case' neg=>
      by_cases c4:(l.length:Int)<=dest
      case' pos=>
       have HE:=hid (show rebaseF (l.map FLV.pl) ms source dest (sl.map STV.pl)=(noMR,1) by rw[HRB.out,if_pos (by rw[HAR.out,decide_eq_false (by omega:¬dest<(l.length:Int)),Bool.and_false])])
       clear HM HRL
      case' neg=>
       rw[decide_eq_true (by omega:-1<=dest),decide_eq_true (by omega:dest<(l.length:Int)),Bool.and_self] at HAR
       rw[if_neg (by rw[HAR.out];decide)] at HRB
       have HK:=hid (bFh (source:=source) (dest:=dest) HLW.out HM.out (by omega) hm HSN.out HR3.out (by have:=HRL.out;unfold rightL at this;simp only[Bool.and_eq_true] at this;exact this.1.1) (by omega) (by omega) (by omega) (by omega))
       have K3:=HK.out
       clear HK HM HRL
       generalize allF (sl.map STV.pl) (moved (parF (l.map FLV.pl)) ms source) (l.map FLV.pl) source dest=r at *
       go_wp2_with fail
       refine K3.mono ?_
       rintro e w3 hall
       clear K3
       have HB3:Hid (Below W.heap.size W w3):=by
        cases r with
        | error x=>exact hall.1
        | ok x=>obtain ⟨_,_,_,_,_,_,_,h,_⟩:=hall;exact h.bel
       have KT:∃(b:Bool) (k:Int),e=.returned (.tuple #[.bool b,.int .i64 k])/\Calls Tryz.prog 37 #[.pointer (some ⟨mb,0,none⟩),.bool b,.int .i64 k] w3 (MovedIs [w.heap.size] W.heap.size (toldF l.length r) w3):=by
        cases r with
        | error x=>
         have hst:StopIs W mb x e w3:=hall
         obtain ⟨_,q2,q3,_⟩:=id hst
         obtain ⟨x1,x2⟩:=x
         refine ⟨false,x2,q2,?_⟩
         by_cases hx:x2=0
         ·subst hx
          exact aPw hst rfl
         rw[show toldF l.length (.error (x1,x2))=(noMR,x2) from congrArg (·,x2) (q3 hx)]
         exact aUe hx
        | ok x=>
         obtain ⟨l',k⟩:=x
         obtain ⟨q1,fv',kv',fl',ms',q2,q3,q4,q5,q6,q7⟩:=hall
         refine ⟨true,0,q1,?_⟩
         have:=bAx q4 q5 (S:=ms.length) (by have:=congrArg List.length q3;simp only[List.length_map,List.length_append] at this;omega) (by omega) (by omega)
         rw[q2,q3,show ms.length=(ms.map MV.pl).length by rw[List.length_map],List.drop_left] at this
         exact this
       obtain ⟨b,k,rfl,KT⟩:=KT
       have HBA3:=hid (HBW.out.trans (HB3.out.mono HBW.out.size))
       have HX3:=hid ((HB3.out.block _ (aAa HBX.out)).trans HBX.out)
       have HRR:=hid (show toldF l.length r=rebaseF (l.map FLV.pl) ms source dest (sl.map STV.pl) from HRB.out.symm)
       rw[HRR.out] at KT
       clear hall HB3 HRB HX1 HBA HB1 HRR
       go_wp2_with fail
       refine KT.mono ?_
       rintro e w4 hmv
       have hb4:=hmv.1
       obtain ⟨AN,AKK,AF,AC,cn,ckk,cf,cc,nl,kl,rfl,hset⟩:=hmv.set (aAa HBX.out)
       have hbx4:=(hb4.block _ (aAa HX3.out)).trans HX3.out
       have HSET:=hid hset
       have HB4:=hid (HBA3.out.trans (hb4.mono HBA3.out.size))
       clear KT hmv hset hb4
       go_wp2_with (refine wpList_store_row rfl 32 (.tmp 10) (.tmp 53) rfl w.heap.size #[.slice AN nl.length cn,.slice AKK kl.length ckk,.int .i64 (rebaseF (l.map FLV.pl) ms source dest (sl.map STV.pl)).1.commit,.slice AF (rebaseF (l.map FLV.pl) ms source dest (sl.map STV.pl)).1.files.length cf,.slice AC (rebaseF (l.map FLV.pl) ms source dest (sl.map STV.pl)).1.clashes.length cc] rfl rfl _ _ hbx4 aCp rfl (by simp[Value.oneCell']) ?_)
       try simp only[Exit.inBlock,Exit.then]
       refine bodyPost_ret (aAm rfl _ _ w.heap.size _ _ (0,0) _ rfl (setRow_heap _ _ _ _ _ _ hbx4) Tryz.underlying32 rfl aCp) rfl ?_
       exact HSET.out w (fun cs=>aAj HB4.out (Nat.le_refl _)) _
 all_goals
  have hz:=aJj
  go_wp2_with (refine wpList_store_row rfl 32 (.tmp 10) (.tmp 44) rfl w.heap.size #[.slice none 0 0,.slice none 0 0,.int .i64 0,.slice none 0 0,.slice none 0 0] rfl rfl _ _ HX1.out aCp rfl (by simp[Value.oneCell']) ?_)
  try simp only[Exit.inBlock,Exit.then]
  refine bodyPost_ret (aAm rfl _ _ w.heap.size _ _ (0,0) _ rfl (setRow_heap _ _ _ _ _ _ HX1.out) Tryz.underlying32 rfl aCp) rfl ?_
  rw[HE.out]
  exact aKj (aAj HBA.out (Nat.le_refl _))
def Few24 (l:List FLV)(ms:List MV)(sl:List STV)(w:World)(e:Ending) (w':World):Prop:=
 ∃b:Bool,e=.returned (.bool b)/\w'=w/\(b=true->l.length<=12/\ms.length<=12/\sl.length<=6)
theorem aYm {l:List FV}{k:Nat}{f:FV}(_hk:k<30)(hx:l[k]? = some f):(l.take (k+1)).foldl playStep []=playStep ((l.take k).foldl playStep []) f:=by
 rw[List.take_add_one,hx,List.foldl_append];rfl
theorem aKb {A:Option Addr}{n c:Nat}{l:List FV}{w:World}(hn:n<=17592186044416)(h:RdF w w.heap.size A n c l) :
  Calls Tryz.prog 20 #[.slice A n c] w (FilesIsN (·=playF l) w):=by
 have HL:=hid h.len
 go_enter Tryz.func20,Tryz.ntmps20
 go_wp2
 go_loopw[3,4] (fun lv i wr=>∃(k:Nat) (A':Option Addr) (c':Nat) (out:List FV),k<=n/\k<=30/\i=.int .i64 k/\lv=.slice A' out.length c'/\Hid (out=(l.take k).foldl playStep [])/\RdF wr wr.heap.size A' out.length c' out/\Below w.heap.size w wr/\Hid (NewAt A' w.heap.size)) (fun _ i _=>n-(intOf i).toNat)
 case atStart=>exact ⟨0,none,0,[],Nat.zero_le _,Nat.zero_le _,rfl,rfl,by rw[List.take_zero];exact hid rfl,RdF.none_ _ _,Below.refl _ _,NewAt.none_ _⟩
 obtain ⟨k,A',c',out,hk,hk30,rfl,rfl,hO,hr,hb,hN⟩:=hrel
 have FIN:k=n\/k=30->FilesIsN (·=playF l) w (.returned (.slice A' out.length c')) wr:=fun e=>⟨A',c',out,rfl,by
  rw[hO.out,playF]
  rcases e with e | e
  ·subst e
   have hl:l.length=k:=HL.out
   rw[List.take_of_length_le (by omega),List.take_of_length_le (by omega)]
  rw[e],hr,hb,hN.out⟩
 have HFIN:=hid FIN
 clear FIN
 by_cases hlt:k<n
 ·by_cases hlt2:k<30
  ·obtain ⟨b0,o0,f,rfl,hbb,hx,hfm,h0,h1,h2⟩:=h.get hlt
   replace h0:=(hb.cell (p:=⟨b0,o0+k*3,none⟩) (by show b0<_;omega)).trans h0
   replace h1:=(hb.cell (p:=⟨b0,o0+k*3+1,none⟩) (by show b0<_;omega)).trans h1
   replace h2:=(hb.cell (p:=⟨b0,o0+k*3+2,none⟩) (by show b0<_;omega)).trans h2
   have hff:=h.fits f hfm
   have HN:=hid (show (l.take (k+1)).foldl playStep []=playStep out f by rw[hO.out];exact aYm hlt2 hx)
   clear hx
   by_cases hq:2000<f.text.size
   ·have HS:=hid (show playStep out f=out by rw[playStep,if_pos hq])
    go_wp2
    go_roundw
    case rel=>exact ⟨k+1,A',c',out,by omega,by omega,by go_num,rfl,by rw[HN.out,HS.out];exact hid rfl,hr,hb,hN⟩
    simp[intOf];omega
   have hol:out.length<=30:=by
    have h3:=(aEs (l.take k) aCn).2
    rw[<-hO.out] at h3
    have:=List.length_take_le k l
    simp only[List.length_nil] at h3
    omega
   go_wp2_with fail
   refine (bGq (f:=f) (by omega) hr hff).mono ?_
   rintro e w1 ⟨A1,c1,rfl,hr1,hb1,hN1⟩
   have HN1:=hid (show NewAt A1 w.heap.size from fun b o s hA=>Nat.le_trans hb.size (hN1 b o s hA))
   clear hN1
   have hbb1:=hb.trans (hb1.mono hb.size)
   have hr0:=hr.to hb1 hb1.size
   clear hr hb hb1 h0 h1 h2
   by_cases hz:(putF out f).2=0
   ·have HS:=hid (show playStep out f=(putF out f).1 by rw[playStep,if_neg hq,if_pos hz])
    generalize putF out f=r at *
    obtain ⟨rl,rk⟩:=r
    obtain rfl:rk=0:=hz
    clear hq hr0
    go_wp2
    go_roundw
    case rel=>exact ⟨k+1,A1,c1,rl,by omega,by omega,by go_num,rfl,by rw[HN.out,HS.out];exact hid rfl,hr1,hbb1,HN1⟩
    simp[intOf];omega
   have HS:=hid (show playStep out f=out by rw[playStep,if_neg hq,if_neg hz])
   generalize putF out f=r at *
   obtain ⟨rl,rk⟩:=r
   have hz':¬rk=0:=hz
   clear hq hr1
   go_wp2
   go_roundw
   case rel=>exact ⟨k+1,A',c',out,by omega,by omega,by go_num,rfl,by rw[HN.out,HS.out];exact hid rfl,hr0,hbb1,hN⟩
   simp[intOf];omega
  have e:=HFIN.out (.inr (by omega))
  have he:=hid e
  clear e
  go_wp2
  go_ret
  exact he.out
 have e:=HFIN.out (.inl (by omega))
 have he:=hid e
 clear e
 go_wp2
 go_ret
 exact he.out
def Box (g:FV)(b:Nat)(u:World):Prop:=b<u.heap.size/\∀i v,g.cells[i]? = some v->u.cell? ⟨b,i,none⟩=some v
end Go.Proofs.YtohblmepajhpaaaGreatDoor
