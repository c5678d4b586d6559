/- Texts of the walks, together: Walk: (*move.moving).all. Walk: move.Rebase. Walk: few of the laws of moves. Walk: play.Tree. A box that holds a file, from world to world. Walk: play.Flats: the commits that plays draw. Plain law: where nothing was renamed, and nothing clashes, the whole is at each path as the sides say. Plain laws: one file moved, deleted, added. Plain law: what awake of the laws of merged trees asks. Walk: awake of the laws of moves. Walk: a number's digits. Plain laws: moves of small trees, reckoned: a line of commits moved onto another line. Plain law: what stands between is left behind: two lines, one of them moved onto the other one. -/
import Derived.Test.YtohblmepajhpaaaGreatDoorG05
import Derived.Test.YtohblmepajhpaaaGreatDoorG06
import Derived.Test.YtohblmepajhpaaaGreatDoorG22
set_option maxHeartbeats 8000000
set_option maxRecDepth 100000
open Go.Lib (hid)
namespace Go.Proofs.YtohblmepajhpaaaGreatDoor
open Go.RowKit
def ROff (w:World)(X:List Nat)(A:Option Addr)(n c:Nat)(l:List Int):Prop:=Rd w w.heap.size 1 A n c (l.map (.int .i64))/\∀a,A=some a->0<n->a.block∉X
theorem ROff.keep {w w':World}{X:List Nat}{A:Option Addr}{n c:Nat}{l:List Int}(h:ROff w X A n c l)(hk:HStay X w w'):ROff w' X A n c l:=⟨aBn h.1 h.2 hk.keeps,h.2⟩
theorem ROff.less {w:World}{X Y:List Nat}{A:Option Addr}{n c:Nat}{l:List Int}(h:ROff w X A n c l)(hm:∀b∈Y,b∈X\/w.heap.size<=b):ROff w Y A n c l:=⟨h.1,aJn h.1 h.2 hm⟩
theorem ROff.next {w w':World}{X Y:List Nat}{A:Option Addr}{n c:Nat}{l:List Int}(h:ROff w X A n c l)(hst:HStay X w w')(hx:∀g∈Y,g∈X\/w.heap.size<=g):ROff w' Y A n c l:=⟨aBn h.1 h.2 hst.keeps,aJn h.1 h.2 hx⟩
theorem Mov.offMap {Z:List Nat}{w0 w:World}{mb E S:Nat}{sv fv kv:Value}{fl:List FLV}{ms:List MV}(h:Mov Z w0 w mb E S sv fv kv fl ms){b:Nat}{es:Array MapEntry}{ck:Nat}(hb:w.heap[b]? = some (.map es ck)):Off w (b::Xs Z mb fv kv) fl ms:=by
 refine ⟨fun f hf=>?_,fun m hm=>?_⟩
 ·obtain ⟨⟨p1,p2⟩,p3,p4,p5⟩:=h.pf f hf
  refine ⟨⟨p1,fun a e hn hm=>?_⟩,p3,p4,p5⟩
  rcases List.mem_cons.1 hm with h1 | h1
  ·exact aKr p1.row (by rw[p1.row.len];omega) hb a e h1
  exact p2 a e hn h1
 obtain ⟨p1,p2,p3,p4,p5⟩:=h.pk m hm
 refine ⟨p1,fun a e hn hm=>?_,p3,p4,p5⟩
 rcases List.mem_cons.1 hm with h1 | h1
 ·exact aKr p1 (by rw[p1.len];omega) hb a e h1
 exact p2 a e hn h1
theorem ROff.map {w:World}{X:List Nat}{A:Option Addr}{n c:Nat}{l:List Int}(h:ROff w X A n c l){b:Nat}{es:Array MapEntry}{ck:Nat}(hb:w.heap[b]? = some (.map es ck)):ROff w (b::X) A n c l:=
 ⟨h.1,fun a e hn hm=>by
  rcases List.mem_cons.1 hm with h1 | h1
  ·exact aKr h.1 (by rw[h.1.len];omega) hb a e h1
  exact h.2 a e hn h1⟩
def MvAll (Z:List Nat)(w0:World)(mb E S:Nat)(sv:Value)(n:Nat)(ms:List MV)(r:Except (MR×Int) (List FL×List (Int×List Int)))(e:Ending) (w':World):Prop:=
 match r with
 | .error x=>StopIs w0 mb x e w'
 | .ok (l',k)=>e=.returned (.tuple #[.bool true,.int .i64 0])/\∃(fv' kv':Value) (fl':List FLV) (ms':List MV),fl'.map FLV.pl=l'/\ms'.map MV.pl=ms.map MV.pl++k/\Mov Z w0 w' mb E S sv fv' kv' fl' ms'/\n<=fl'.length/\fl'.length<=2*n/\ms'.length<=ms.length+n
theorem bBo {l m:List Int}{c:Int}(hc:0<=c)(hl:c<l.length):par (l++m) c=par l c:=by
 unfold par;rw[List.getElem?_append_left (by omega)]
structure AllAt (s:List SettL) (dest:Int) (fl:List FLV) (ms:List MV) (lv:List Int) (k:Nat) (fl':List FLV) (ms':List MV) (now:List (Int×Int)) (kk:List (Int×List Int)):Prop where
 run:runF' s (parF (fl.map FLV.pl)) dest lv [] (fl.map FLV.pl) []=runF' s (parF (fl.map FLV.pl)) dest (lv.drop k) now (fl'.map FLV.pl) kk
 len:fl'.length=fl.length+k
 mlen:ms'.length=ms.length+k
 mks:ms'.map MV.pl=ms.map MV.pl++kk
 pre:∃t,fl'=fl++t
 now:∀p v,now.lookup p=some v->0<=v/\v<fl'.length
theorem AllAt.start (s:List SettL)(dest:Int)(fl:List FLV)(ms:List MV)(lv:List Int):AllAt s dest fl ms lv 0 fl ms [] []:=
 ⟨by rw[List.drop_zero],rfl,rfl,(List.append_nil _).symm,⟨[],(List.append_nil _).symm⟩,fun p v h=>by cases h⟩
theorem AllAt.stop {s:List SettL}{dest:Int}{fl:List FLV}{ms:List MV}{lv:List Int}{k:Nat} {fl':List FLV} {ms':List MV}{now:List (Int×Int)}{kk:List (Int×List Int)}(h:AllAt s dest fl ms lv k fl' ms' now kk){c:Int}(hc:lv[k]? = some c){x:MR×Int}
  (hx:oneOn s (fl'.map FLV.pl) c (nowF now dest (par (parF (fl.map FLV.pl)) c))=.error x):runF' s (parF (fl.map FLV.pl)) dest lv [] (fl.map FLV.pl) []=.error x:=by
 obtain ⟨hk,e⟩:=List.getElem?_eq_some_iff.1 hc
 rw[h.run,List.drop_eq_getElem_cons hk,e,runF',hx]
theorem AllAt.next {s:List SettL}{dest:Int}{fl:List FLV}{ms:List MV}{lv:List Int}{k:Nat} {fl':List FLV} {ms':List MV}{now:List (Int×Int)}{kk:List (Int×List Int)}(h:AllAt s dest fl ms lv k fl' ms' now kk){c:Int}(hc:lv[k]? = some c){f:FLV}{m:MV} {l':List FL}
  (hx:oneOn s (fl'.map FLV.pl) c (nowF now dest (par (parF (fl.map FLV.pl)) c))=.ok l') (hl:l'=fl'.map FLV.pl++[f.pl]) (hm:m.old=c) (hm2:m.new=[(fl'.length:Int)]) :
  AllAt s dest fl ms lv (k+1) (fl'++[f]) (ms'++[m]) ((c,(fl'.length:Int))::now) (kk++[(c,[(fl'.length:Int)])]):=by
 obtain ⟨hk,e⟩:=List.getElem?_eq_some_iff.1 hc
 obtain ⟨t,ht⟩:=h.pre
 refine ⟨?_,by rw[List.length_append,h.len];rfl,by rw[List.length_append,h.mlen];rfl,?_,⟨t++[f],by rw[ht,List.append_assoc]⟩,fun p v hv=>?_⟩
 ·rw[h.run,List.drop_eq_getElem_cons hk,e,runF',hx]
  dsimp only
  rw[hl,List.map_append,List.length_map];rfl
 ·rw[List.map_append,h.mks,List.append_assoc]
  simp[MV.pl,hm,hm2]
 rw[List.length_append,List.length_singleton]
 rw[List.lookup_cons] at hv
 split at hv
 ·injection hv with hv;omega
 have:=h.now p v hv;omega
theorem AllAt.par {s:List SettL}{dest:Int}{fl:List FLV}{ms:List MV}{lv:List Int}{k:Nat} {fl':List FLV} {ms':List MV}{now:List (Int×Int)}{kk:List (Int×List Int)}(h:AllAt s dest fl ms lv k fl' ms' now kk){c:Int}(h0:0<=c)(h1:c<fl.length):par (parF (fl'.map FLV.pl)) c=par (parF (fl.map FLV.pl)) c:=by
 obtain ⟨t,ht⟩:=h.pre
 rw[ht,List.map_append]
 unfold parF
 rw[List.map_append]
 exact bBo h0 (by simpa using h1)
theorem aCi (fl:List FLV):(parF (fl.map FLV.pl)).length=fl.length:=by unfold parF;simp
theorem bDc (fl:List FLV):parF (fl.map FLV.pl)=fl.map FLV.parent:=by unfold parF;rw[List.map_map];rfl
theorem bBw {Z:List Nat}{w0 w:World}{mb E S n sc:Nat}{SA:Option Addr}{fv kv:Value}{fl:List FLV}{ms:List MV}{sl:List STV}{source dest:Int}(hL:Lm w0)(h:Mov Z w0 w mb E S (.slice SA n sc) fv kv fl ms)(hfl:fl.length<=64)(hms:ms.length<=50000)
  (hn:n<=maxLen) (hs:RdS w0 w0.heap.size SA n sc sl) (hr:rightP (parF (fl.map FLV.pl))=true) (hs0:0<=source) (hs1:source<fl.length) (hd0:-1<=dest) (hd1:dest<fl.length) :
  Calls Tryz.prog 38 #[.pointer (some ⟨mb,0,none⟩),.int .i64 source,.int .i64 dest] w (MvAll Z w0 mb E S (.slice SA n sc) fl.length ms (allF (sl.map STV.pl) (moved (parF (fl.map FLV.pl)) ms source) (fl.map FLV.pl) source dest)):=by
 have hmm:=@run_makeMap Tryz.prog
 obtain ⟨A,ca,efv,hrf⟩:=h.rdFl
 have HM:=hid h
 have HR:=hid hr
 have HS:=hid hs
 have HNL:=hid hn
 have hal:allF (sl.map STV.pl) (moved (parF (fl.map FLV.pl)) ms source) (fl.map FLV.pl) source dest=if above (parF (fl.map FLV.pl)) source dest=true then .error (noMR,23)
  else if par (parF (fl.map FLV.pl)) source=dest then .error (noMR,14) else runF' (sl.map STV.pl) (parF (fl.map FLV.pl)) dest (moved (parF (fl.map FLV.pl)) ms source) [] (fl.map FLV.pl) []:=rfl
 have HAL:=hid hal
 have K1:=aJq h.hs (show (movC fv kv E S (.slice SA n sc))[0]? = some (.slice A fl.length ca) by rw[efv];rfl) hrf.row rfl (by omega)
 rw[<-bDc] at K1
 clear h hrf efv hr hs hn hal
 go_enter Tryz.func38,Tryz.ntmps38
 go_wp2_with fail
 refine K1.mono ?_
 rintro e w1 ⟨A4,c4,l4,rfl,r4,hb1,rfl,hn4⟩
 have HM1:=hid (HM.out.below hb1)
 rw[aCi] at r4 ⊢
 have HR4:=hid (show ROff w1 (Xs Z mb fv kv) A4 fl.length c4 (parF (fl.map FLV.pl)) from ⟨r4,fun a e _ hm=>by
  rcases hn4 a e with ⟨_,h⟩ | h
  ·exact absurd h (Nat.lt_irrefl _)
  exact HM.out.new h hm⟩)
 have K2:=aWi (l:=parF (fl.map FLV.pl)) (a:=source) (b:=dest) (by rw[aCi];omega) (by rw[aCi];exact r4)
 rw[aCi] at K2
 clear K1 hb1 hn4 r4
 go_wp2_with fail
 refine K2.mono ?_
 rintro e w2 ⟨rfl,hb2⟩
 have HM2:=hid (HM1.out.below hb2)
 have HR2:=hid (HR4.out.keep (HStay.of_below hb2))
 clear K2 hb2 HM1 HR4
 cases ha:above (parF (fl.map FLV.pl)) source dest with
 | true=>
  rw[if_pos ha] at HAL
  clear ha
  go_wp2
  go_ret2
  rw[HAL.out]
  exact ⟨HM2.out.bel,rfl,fun _=>rfl,fun e=>absurd e (by decide)⟩
 | false=>
  rw[if_neg (by rw[ha];decide)] at HAL
  clear ha
  obtain ⟨s',rfl⟩:∃k:Nat,source=(k:Int):=⟨source.toNat,by omega⟩
  obtain ⟨b4,o4,p4,eA4,hbb4,hx4,g4⟩:=Rd.int_ HR2.out.1 (k:=s') (by omega)
  subst eA4
  have HP4:=hid (aHq hx4)
  clear hx4
  by_cases hpd:p4=dest
  case pos=>
   have HD:=hid (show par (parF (fl.map FLV.pl)) (s':Int)=dest from HP4.out.trans hpd)
   rw[if_pos HD.out] at HAL
   subst hpd
   go_wp2
   go_ret2
   rw[HAL.out]
   exact ⟨HM2.out.bel,rfl,fun _=>rfl,fun e=>absurd e (by decide)⟩
  obtain ⟨hq1,hq2⟩:=aUh hpd
  rw[if_neg (by rw[HP4.out];exact hpd)] at HAL
  obtain ⟨W,eW⟩:∃W,W=w2.alloc (.map #[] 0):=⟨_,rfl⟩
  obtain ⟨b,eb⟩:∃b,b=w2.heap.size:=⟨_,rfl⟩
  have hbW:Below w2.heap.size w2 W:=by rw[eW];exact (Below.refl _ _).alloc (Nat.le_refl _) _
  have HM3:=hid (HM2.out.below hbW)
  have HR3:=hid (HR2.out.keep (HStay.of_below hbW))
  have HMP:=hid (show MpM W b 0 (.map []) (fun _=>none) by rw[eW,eb];exact MpM.start w2)
  have HBX:=hid (show b∉Xs Z mb fv kv from by rw[eb];exact HM2.out.new (Nat.le_refl _))
  have HBL:=hid (show w0.heap.size<=b by rw[eb];exact HM2.out.bel.size)
  obtain ⟨AK,ck,ekv,hrk⟩:=HM3.out.rdM
  have g1:W.cell? ⟨mb,1,none⟩=some (.slice AK ms.length ck):=by rw[Lib.cell_of_heap HM3.out.hs,<-ekv];rfl
  have gml:=aAa HM3.out.hs
  have K5:=aYl (l:=parF (fl.map FLV.pl)) (s:=(s':Int)) (by rw[aCi];exact hfl) (by rw[aCi];exact HR3.out.1) (by unfold maxLen;omega) hrk
  rw[aCi] at K5
  clear ekv hrk hbW HM2 HR2 hpd
  rw[eW] at g1 gml K5
  go_wp2_with fail
  rw[<-eW] at K5 ⊢
  rw[<-eb]
  clear g1 gml eW eb
  refine K5.mono ?_
  rintro e w4 ⟨A5,c5,lv,rfl,r5,hb5,elv,hn5⟩
  have HLI:=hid (show ∀c∈lv,0<=c/\c<fl.length from fun c hc=>by
   rw[elv] at hc
   obtain ⟨⟨_,h1,_⟩,h2,h3,_⟩:=bAk.1 hc
   rw[aCi] at h3
   exact ⟨by omega,h3⟩)
  have hll:lv.length<=fl.length:=by
   rw[elv];unfold moved
   split
   ·rw[aCi];exact aKi _ _ _ _
   exact Nat.zero_le _
  replace HAL:=hid (HAL.out.trans (show _=runF' (sl.map STV.pl) (parF (fl.map FLV.pl)) dest lv [] (fl.map FLV.pl) [] by rw[elv]))
  have HM4:=hid (HM3.out.below hb5)
  have HR4:=hid (HR3.out.keep (HStay.of_below hb5))
  have HM0:=hid (HMP.out.same (hb5.block b (by obtain ⟨es,cq,h⟩:=HMP.out.block;exact aAa h)))
  have HR5:=hid (show ROff w4 (Xs Z mb fv kv) A5 lv.length c5 lv from ⟨r5,fun a e _ hm=>by
   rcases hn5 a e with ⟨_,h⟩ | h
   ·exact absurd h (Nat.lt_irrefl _)
   exact HM3.out.new h hm⟩)
  have HAT:=hid (AllAt.start (sl.map STV.pl) dest fl ms lv)
  clear K5 r5 hb5 hn5 elv HM3 HR3 HMP g4 hq1 hq2 HP4 W hbb4
  go_wp2
  go_loopw[39] (fun iv wr=>∃(k:Nat) (fv' kv':Value) (fl':List FLV) (ms':List MV) (now:List (Int×Int)) (kk:List (Int×List Int)) (D:DataW Value),k<=lv.length/\iv=.int .i64 k/\Hid (Mov Z w0 wr mb E S (.slice SA n sc) fv' kv' fl' ms')/\Hid (MpM wr b k D (fun x=>now.lookup x))/\Hid (b∉Xs Z mb fv' kv')/\
   Hid (ROff wr (Xs Z mb fv' kv') (some ⟨b4,o4,none⟩) fl.length c4 (parF (fl.map FLV.pl)))/\Hid (ROff wr (Xs Z mb fv' kv') A5 lv.length c5 lv)/\Hid (AllAt (sl.map STV.pl) dest fl ms lv k fl' ms' now kk)) (fun iv _=>lv.length-(intOf iv).toNat)
  case atStart=>exact ⟨0,fv,kv,fl,ms,[],[],.map [],Nat.zero_le _,rfl,HM4.out,HM0.out,HBX.out,HR4.out,HR5.out,HAT.out⟩
  clear HM4 HM0 HBX HR4 HR5 HAT HM
  obtain ⟨k,fv',kv',fl',ms',now,kk,D,hk,rfl,hM,hP,hX,hR4,hR5,hA⟩:=hrel
  by_cases hlt:k<lv.length
  ·obtain ⟨b5,o5,c,eA5,hbb5,hx5,g5⟩:=Rd.int_ hR5.out.1 hlt
   subst eA5
   obtain ⟨hc0,hc1⟩:=HLI.out c (List.mem_of_getElem? hx5)
   obtain ⟨c',rfl⟩:∃k:Nat,c=(k:Int):=⟨c.toNat,by omega⟩
   have HC:=hid hx5
   obtain ⟨b4',o4',p,eA4,hbb4,hx4,g4⟩:=Rd.int_ hR4.out.1 (k:=c') (by omega)
   cases eA4
   have HPA:=hid (aHq hx4)
   have hpr:-1<=p/\p<(c':Int):=by rw[<-HPA.out];exact aCb HR.out (by omega) (by rw[aCi];exact hc1)
   obtain ⟨hp0,hp1⟩:=hpr
   have hlook:=hP.out.look (x:=p) (by unfold I64;omega)
   have hz1:=aMk p wr
   have hz2:=aMk (c':Int) wr
   obtain ⟨AF,cf,efv,hrf⟩:=hM.out.rdFl
   have g0:wr.cell? ⟨mb,0,none⟩=some (.slice AF fl'.length cf):=by rw[Lib.cell_of_heap hM.out.hs,<-efv];rfl
   have gml:=aAa hM.out.hs
   have HLN:=hid hA.out.len
   have HLM:=hid hA.out.mlen
   have hln:fl'.length<=128:=by have:=HLN.out;omega
   clear hx5 hx4 hrf efv
   cases hq:now.lookup p
   case' none=>
    have HOO:=hid (show nowF now dest p=dest by unfold nowF;rw[hq];rfl)
    have H0:=hid hd0
    have H1:=hid (show dest<fl'.length by have:=HLN.out;omega)
    obtain ⟨r,hO⟩:∃r,r=oneOn (sl.map STV.pl) (fl'.map FLV.pl) (c':Int) dest:=⟨_,rfl⟩
    rw[hq] at hlook
    simp only[Option.getD_none,Option.isSome_none] at hlook
   case' some v=>
    have HOO:=hid (show nowF now dest p=v by unfold nowF;rw[hq];rfl)
    have H0:=hid (show -1<=v by have:=(hA.out.now p v hq).1;omega)
    have H1:=hid (hA.out.now p v hq).2
    obtain ⟨r,hO⟩:∃r,r=oneOn (sl.map STV.pl) (fl'.map FLV.pl) (c':Int) v:=⟨_,rfl⟩
    rw[hq] at hlook
    simp only[Option.getD_some,Option.isSome_some] at hlook
   all_goals
    have HX:=hid (show oneOn (sl.map STV.pl) (fl'.map FLV.pl) (c':Int) (nowF now dest (par (parF (fl.map FLV.pl)) c'))=r by rw[HPA.out,HOO.out];exact hO.symm)
    have K:=fun (w5:World) (h5:Mov Z w0 w5 mb E S (.slice SA n sc) fv' kv' fl' ms')=>bEa (c:=(c':Int)) hL h5 (by omega) (by have:=HLM.out;omega) HNL.out HS.out hc0 (by have:=HLN.out;omega) (by rw[hA.out.par hc0 hc1,HPA.out];have:=HLN.out;omega) H0.out H1.out
    simp only[<-hO] at K
    have HK:=hid K
    clear K hO hq
    go_wp2_with (at_mapUpdate;refine wpList_mapUpdate_own _ rfl _ _ _ 122 rfl 125 3 KMv Tryz.underlying122 Rv b k D rfl hP.out.own (by unfold maxLen;omega) _ _ _ rfl rfl (keyM (x:=(c':Int)) (by unfold I64;omega)) _ [] rfl ?_;intro w5 hown5 hg5)
    obtain ⟨es,cq,hbk⟩:=hP.out.block
    have hM5:=hM.out.setOther hg5 hX.out HBL.out (hM.out.offMap hbk)
    have hst5:HStay (b::Xs Z mb fv' kv') wr w5:=HStay.grown hg5 fun g e=>by injection e with e;rw[e];exact List.mem_cons_self ..
    have HP5:=hid (hP.out.put (F':=fun x=>List.lookup x (((c':Int),(fl'.length:Int))::now)) (by unfold I64;omega) hown5 (fun x=>by
     rw[List.lookup_cons]
     by_cases e:x=(c':Int)
     ·subst e;simp
     rw[if_neg e,show (x == (c':Int))=false by simpa using e]))
    have HR45:=hid ((hR4.out.map hbk).keep hst5)
    have HR55:=hid ((hR5.out.map hbk).keep hst5)
    have HZ5:=hid hst5.1
    have HB5:=hid (show b<w5.heap.size from Nat.lt_of_lt_of_le (aAa hbk) hst5.1)
    refine (HK.out w5 hM5).mono ?_
    rintro e w6 hone
    clear hM5 hst5 hown5 hg5 hbk hlook hz1 hz2 g0 gml hP hR4 hR5 HK hM g4 g5 hbb4 hbb5 HPA HOO H0 H1
    cases r with
    | error x=>
     obtain ⟨h1,rfl,h3,h4⟩:=hone
     have HQ:=hid (And.intro h1 (And.intro h3 h4))
     clear h1 h3 h4
     go_wp2
     go_ret2
     rw[HAL.out,hA.out.stop HC.out HX.out]
     exact ⟨HQ.out.1,rfl,HQ.out.2.1,HQ.out.2.2⟩
    | ok l'=>
     obtain ⟨rfl,fv2,kv2,f,m,hl,hm,hm2,hM6,hst,hxs⟩:=hone
     have hbn:b∉Xs Z mb fv2 kv2:=fun e=>by
      rcases hxs b e with h | h
      ·exact hX.out h
      have:=HB5.out;omega
     have HQ:=hid (show Hid (Mov Z w0 w6 mb E S (.slice SA n sc) fv2 kv2 (fl'++[f]) (ms'++[m]))/\Hid (MpM w6 b (k+1) (D.put (klM c') (.held (.int .i64 (fl'.length:Int)))) (fun x=>List.lookup x (((c':Int),(fl'.length:Int))::now)))/\Hid (b∉Xs Z mb fv2 kv2)/\
       Hid (ROff w6 (Xs Z mb fv2 kv2) (some ⟨b4,o4,none⟩) fl.length c4 (parF (fl.map FLV.pl)))/\Hid (ROff w6 (Xs Z mb fv2 kv2) (some ⟨b5,o5,none⟩) lv.length c5 lv)/\Hid (AllAt (sl.map STV.pl) dest fl ms lv (k+1) (fl'++[f]) (ms'++[m]) (((c':Int),(fl'.length:Int))::now) (kk++[((c':Int),[(fl'.length:Int)])])) from
      ⟨hM6,HP5.out.same (hst.2 b HB5.out hX.out),hbn,(HR45.out.less fun g hg=>.inl (List.mem_cons_of_mem _ hg)).next hst hxs,(HR55.out.less fun g hg=>.inl (List.mem_cons_of_mem _ hg)).next hst hxs,hA.out.next HC.out HX.out hl hm hm2⟩)
     clear hl hm hm2 hM6 hst hxs hbn HP5 HR45 HR55 HZ5 HB5 hX hA HX HC HLN HLM
     go_wp2
     go_roundw
     case rel=>exact ⟨k+1,fv2,kv2,fl'++[f],ms'++[m],_,_,_,by omega,by go_num,HQ.out.1,HQ.out.2.1,HQ.out.2.2.1,HQ.out.2.2.2.1,HQ.out.2.2.2.2.1,HQ.out.2.2.2.2.2⟩
     simp[intOf];omega
  have hkn:k=lv.length:=by omega
  have HF:=hid (show runF' (sl.map STV.pl) (parF (fl.map FLV.pl)) dest lv [] (fl.map FLV.pl) []=.ok (fl'.map FLV.pl,kk) by
   rw[hA.out.run,hkn,List.drop_length];rfl)
  have HMK:=hid hA.out.mks
  have HLL:=hid (And.intro hA.out.len hA.out.mlen)
  clear hP hX hR4 hR5 hA
  subst hkn
  go_wp2
  go_ret2
  rw[HAL.out,HF.out]
  exact ⟨rfl,fv',kv',fl',ms',rfl,HMK.out,hM.out,by have:=HLL.out.1;omega,by have:=HLL.out.1;omega,by have:=HLL.out.2;omega⟩
theorem MovedIs.set {rb B:Nat}{r:MR×Int}{w w1:World}{e:Ending}(h:MovedIs [rb] B r w e w1)(hrb:rb<B) :
  ∃(AN AK AF AC:Option Addr) (cn ck cf cc:Nat) (nl:List FLV) (kl:List MV),e=.returned (.tuple #[.agg #[.slice AN nl.length cn,.slice AK kl.length ck,.int .i64 r.1.commit,.slice AF r.1.files.length cf,.slice AC r.1.clashes.length cc],.int .i64 r.2])/\
  ∀(w0:World),(∀cs,Below w0.heap.size w0 (w1.setRow rb cs))->∀cs,MovedIs [] 0 r w0 (.returned (.tuple #[.agg #[.slice AN nl.length cn,.slice AK kl.length ck,.int .i64 r.1.commit,.slice AF r.1.files.length cf,.slice AC r.1.clashes.length cc],.int .i64 r.2])) (w1.setRow rb cs):=by
 obtain ⟨_,AN,AK,AF,AC,cn,ck,cf,cc,nl,kl,h1,h2,h3,r1,r2,r3,r4,n1,n2,n3,n4,z1,z2⟩:=h
 refine ⟨AN,AK,AF,AC,cn,ck,cf,cc,nl,kl,h3,fun w0 hb cs=>?_⟩
 have hst:HStay [rb] w1 (w1.setRow rb cs):=⟨by simp[World.setRow],fun k _ hx=>setRow_other _ _ _ _ (fun e=>hx (by rw[e];simp))⟩
 have hn:∀{A:Option Addr},(∀a,A=some a->B<=a.block)->∀{n:Nat},∀a,A=some a->0<n->a.block∉[rb]:=fun h n a e _ hm=>by
  have:=h a e
  rw[List.mem_singleton.1 hm] at this;omega
 refine ⟨hb cs,AN,AK,AF,AC,cn,ck,cf,cc,nl,kl,h1,h2,rfl,⟨aBn r1.row (hn n1) hst.keeps,rfl,fun f hf=>?_⟩,⟨aBn r2.row (hn n2) hst.keeps,rfl,fun m hm=>?_⟩,
  ⟨aBn r3.row (hn n3) hst.keeps,rfl,r3.fits⟩,aBn r4 (hn n4) hst.keeps,fun _ _=>Nat.zero_le _,fun _ _=>Nat.zero_le _,fun _ _=>Nat.zero_le _,fun _ _=>Nat.zero_le _,fun _ _ _ _ _ h=>(by cases h),fun _ _ _ _ _ h=>(by cases h)⟩
 ·obtain ⟨p1,p2⟩:=r1.parts f hf
  exact ⟨⟨aBn p1.row (z1 f hf) hst.keeps,rfl,p1.fits⟩,p2⟩
 obtain ⟨p1,p2⟩:=r2.parts m hm
 exact ⟨aBn p1 (z2 m hm) hst.keeps,p2⟩
theorem aMi {w:World}{A AK SA:Option Addr}{c ck sn sc:Nat}{l:List FLV}{ms:List MV}{sl:List STV}{source dest:Int}(hL:Lm w)(hn:l.length<=64)(hm:ms.length<=50000)(hsn:sn<=maxLen)
  (r1:RdFl w w.heap.size A l.length c l) (r2:RdM w w.heap.size AK ms.length ck ms) (r3:RdS w w.heap.size SA sn sc sl) :
  Calls Tryz.prog 13 #[.slice A l.length c,.slice AK ms.length ck,.int .i64 source,.int .i64 dest,.slice SA sn sc] w (MovedIs [] 0 (rebaseF (l.map FLV.pl) ms source dest (sl.map STV.pl)) w):=by
 obtain ⟨W,eW⟩:∃W,W=w.alloc (.cells #[.slice none 0 0,.slice none 0 0,.int .i64 0,.slice none 0 0,.slice none 0 0] 32):=⟨_,rfl⟩
 have hbW:Below w.heap.size w W:=by rw[eW];exact (Below.refl _ _).alloc (Nat.le_refl _) _
 have hbox:W.heap[w.heap.size]? = some (.cells #[.slice none 0 0,.slice none 0 0,.int .i64 0,.slice none 0 0,.slice none 0 0] 32 (0,0)):=by rw[eW];exact heap_alloc_new _ _
 have HBX:=hid hbox
 have HBW:=hid hbW
 have HRB:=hid (show rebaseF (l.map FLV.pl) ms source dest (sl.map STV.pl)=if argsOk (l.map FLV.pl) ms source dest=false then (noMR,1)
  else toldF (l.map FLV.pl).length (allF (sl.map STV.pl) (moved (parF (l.map FLV.pl)) ms source) (l.map FLV.pl) source dest) from rfl)
 have HAR:=hid (show argsOk (l.map FLV.pl) ms source dest=(rightL (l.map FLV.pl) ms && (decide (0<=source) && decide (source<((l.map FLV.pl).length:Int))) && !obsM ms source && (decide (-1<=dest) && decide (dest<((l.map FLV.pl).length:Int)))) from rfl)
 rw[List.length_map] at HRB HAR
 have HR2:=hid (r2.to hbW hbW.size)
 have HR3:=hid (r3.to hbW hbW.size)
 have HLW:=hid (hL.to hbW)
 have HSN:=hid hsn
 have KB:=aVd (Z:=[w.heap.size]) (SA:=SA) (sn:=sn) (sc:=sc) (hL.to hbW) (by omega) (by omega) (r1.to hbW hbW.size) (r2.to hbW hbW.size) (fun z hz=>by rw[List.mem_singleton.1 hz];exact aAa hbox)
  (fun f hf a e hn hm=>by
   obtain ⟨b,o,e2,hb,_⟩:=(r1.parts f hf).1.row.at_ hn
   rw[e] at e2;cases e2
   exact Nat.ne_of_lt hb (List.mem_singleton.1 hm))
  (fun m hx a e hn hm=>by
   obtain ⟨b,o,e2,hb,_⟩:=(r2.parts m hx).1.at_ hn
   rw[e] at e2;cases e2
   exact Nat.ne_of_lt hb (List.mem_singleton.1 hm))
 rw[eW] at KB
 clear r1 r2 r3 hbW hbox hL hsn
 go_enter Tryz.func13,Tryz.ntmps13
 go_wp2_with fail
 rw[<-eW] at KB ⊢
 refine KB.mono ?_
 rintro e w1 ⟨hb1,hif⟩
 have HB1:=hid hb1
 have HX1:=hid ((hb1.block _ (aAa HBX.out)).trans HBX.out)
 have HBA:=hid (HBW.out.trans (hb1.mono HBW.out.size))
 clear KB hb1 eW
 cases hrl:rightL (l.map FLV.pl) ms
 case' false=>
  rw[hrl] at hif
  simp only[Bool.false_eq_true,if_false] at hif
  subst hif
  have HE:=hid (show rebaseF (l.map FLV.pl) ms source dest (sl.map STV.pl)=(noMR,1) by rw[HRB.out,if_pos (by rw[HAR.out,hrl];rfl)])
  clear hrl
 case' true=>
  rw[hrl] at hif HAR
  simp only[if_true] at hif
  obtain ⟨mb,fv,kv,rfl,hM⟩:=hif
  rw[Bool.true_and] at HAR
  by_cases c1:source<0
  case' pos=>
   have HE:=hid (show rebaseF (l.map FLV.pl) ms source dest (sl.map STV.pl)=(noMR,1) by rw[HRB.out,if_pos (by rw[HAR.out,decide_eq_false (by omega:¬0<=source)];rfl)])
   clear hM hrl
  case' neg=>
   by_cases c2:(l.length:Int)<=source
   case' pos=>
    have HE:=hid (show rebaseF (l.map FLV.pl) ms source dest (sl.map STV.pl)=(noMR,1) by rw[HRB.out,if_pos (by rw[HAR.out,decide_eq_false (by omega:¬source<(l.length:Int)),Bool.and_false];rfl)])
    clear hM hrl
   case' neg=>
    rw[decide_eq_true (by omega:0<=source),decide_eq_true (by omega:source<(l.length:Int)),Bool.and_self,Bool.true_and] at HAR
    have HM:=hid hM
    have HRL:=hid hrl
    have K2:=aQo (x:=source) (by unfold maxLen;omega) (HR2.out.to HB1.out HB1.out.size)
    clear hM hrl
    go_wp2_with fail
    refine K2.mono ?_
    rintro e w2 ⟨rfl,hb2⟩
    replace HBA:=hid (HBA.out.trans (hb2.mono HBA.out.size))
    replace HX1:=hid ((hb2.block _ (aAa HX1.out)).trans HX1.out)
    replace HB1:=hid (HB1.out.trans (hb2.mono HB1.out.size))
    replace HM:=hid (HM.out.below hb2)
    clear K2 hb2
    cases ho:obsM ms source
    case' true=>
     have HE:=hid (show rebaseF (l.map FLV.pl) ms source dest (sl.map STV.pl)=(noMR,1) by rw[HRB.out,if_pos (by rw[HAR.out,ho];rfl)])
     clear ho HM HRL
    case' false=>
     rw[ho,Bool.not_false,Bool.true_and] at HAR
     clear ho
     by_cases c3:dest < -1
     case' pos=>
      have HE:=hid (show rebaseF (l.map FLV.pl) ms source dest (sl.map STV.pl)=(noMR,1) by rw[HRB.out,if_pos (by rw[HAR.out,decide_eq_false (by omega:¬-1<=dest)];rfl)])
      clear HM HRL
     case' neg=>
      by_cases c4:(l.length:Int)<=dest
      case' pos=>
       have HE:=hid (show rebaseF (l.map FLV.pl) ms source dest (sl.map STV.pl)=(noMR,1) by rw[HRB.out,if_pos (by rw[HAR.out,decide_eq_false (by omega:¬dest<(l.length:Int)),Bool.and_false])])
       clear HM HRL
      case' neg=>
       rw[decide_eq_true (by omega:-1<=dest),decide_eq_true (by omega:dest<(l.length:Int)),Bool.and_self] at HAR
       rw[if_neg (by rw[HAR.out];decide)] at HRB
       have HK:=hid (bBw (source:=source) (dest:=dest) HLW.out HM.out hn hm HSN.out HR3.out (by have:=HRL.out;unfold rightL at this;simp only[Bool.and_eq_true] at this;exact this.1.1) (by omega) (by omega) (by omega) (by omega))
       have K3:=HK.out
       clear HK HM HRL
       generalize allF (sl.map STV.pl) (moved (parF (l.map FLV.pl)) ms source) (l.map FLV.pl) source dest=r at *
       go_wp2_with fail
       refine K3.mono ?_
       rintro e w3 hall
       clear K3
       have HB3:Hid (Below W.heap.size W w3):=by
        cases r with
        | error x=>exact hall.1
        | ok x=>obtain ⟨_,_,_,_,_,_,_,h,_⟩:=hall;exact h.bel
       have KT:∃(b:Bool) (k:Int),e=.returned (.tuple #[.bool b,.int .i64 k])/\Calls Tryz.prog 37 #[.pointer (some ⟨mb,0,none⟩),.bool b,.int .i64 k] w3 (MovedIs [w.heap.size] W.heap.size (toldF l.length r) w3):=by
        cases r with
        | error x=>
         have hst:StopIs W mb x e w3:=hall
         obtain ⟨_,q2,q3,_⟩:=id hst
         obtain ⟨x1,x2⟩:=x
         refine ⟨false,x2,q2,?_⟩
         by_cases hx:x2=0
         ·subst hx
          exact aNk hst rfl
         rw[show toldF l.length (.error (x1,x2))=(noMR,x2) from congrArg (·,x2) (q3 hx)]
         exact aSe hx
        | ok x=>
         obtain ⟨l',k⟩:=x
         obtain ⟨q1,fv',kv',fl',ms',q2,q3,q4,q5,q6,q7⟩:=hall
         refine ⟨true,0,q1,?_⟩
         have:=aWp q4 q5 (S:=ms.length) (by have:=congrArg List.length q3;simp only[List.length_map,List.length_append] at this;omega) (by omega) (by omega)
         rw[q2,q3,show ms.length=(ms.map MV.pl).length by rw[List.length_map],List.drop_left] at this
         exact this
       obtain ⟨b,k,rfl,KT⟩:=KT
       have HBA3:=hid (HBW.out.trans (HB3.out.mono HBW.out.size))
       have HX3:=hid ((HB3.out.block _ (aAa HBX.out)).trans HBX.out)
       have HRR:=hid (show toldF l.length r=rebaseF (l.map FLV.pl) ms source dest (sl.map STV.pl) from HRB.out.symm)
       rw[HRR.out] at KT
       clear hall HB3 HRB HX1 HBA HB1 HRR
       go_wp2_with fail
       refine KT.mono ?_
       rintro e w4 hmv
       have hb4:=hmv.1
       obtain ⟨AN,AKK,AF,AC,cn,ckk,cf,cc,nl,kl,rfl,hset⟩:=hmv.set (aAa HBX.out)
       have hbx4:=(hb4.block _ (aAa HX3.out)).trans HX3.out
       have HSET:=hid hset
       have HB4:=hid (HBA3.out.trans (hb4.mono HBA3.out.size))
       clear KT hmv hset hb4
       go_wp2_with (refine wpList_store_row rfl 32 (.tmp 10) (.tmp 53) rfl w.heap.size #[.slice AN nl.length cn,.slice AKK kl.length ckk,.int .i64 (rebaseF (l.map FLV.pl) ms source dest (sl.map STV.pl)).1.commit,.slice AF (rebaseF (l.map FLV.pl) ms source dest (sl.map STV.pl)).1.files.length cf,.slice AC (rebaseF (l.map FLV.pl) ms source dest (sl.map STV.pl)).1.clashes.length cc] rfl rfl _ _ hbx4 aCj rfl (by simp[Value.oneCell']) ?_)
       try simp only[Exit.inBlock,Exit.then]
       refine bodyPost_ret (aAm rfl _ _ w.heap.size _ _ (0,0) _ rfl (setRow_heap _ _ _ _ _ _ hbx4) Tryz.underlying32 rfl aCj) rfl ?_
       exact HSET.out w (fun cs=>aAj HB4.out (Nat.le_refl _)) _
 all_goals
  have hz:=aHl
  go_wp2_with (refine wpList_store_row rfl 32 (.tmp 10) (.tmp 44) rfl w.heap.size #[.slice none 0 0,.slice none 0 0,.int .i64 0,.slice none 0 0,.slice none 0 0] rfl rfl _ _ HX1.out aCj rfl (by simp[Value.oneCell']) ?_)
  try simp only[Exit.inBlock,Exit.then]
  refine bodyPost_ret (aAm rfl _ _ w.heap.size _ _ (0,0) _ rfl (setRow_heap _ _ _ _ _ _ HX1.out) Tryz.underlying32 rfl aCj) rfl ?_
  rw[HE.out]
  exact aIp (aAj HBA.out (Nat.le_refl _))
def Few24 (l:List FLV)(ms:List MV)(sl:List STV)(w:World)(e:Ending) (w':World):Prop:=
 ∃b:Bool,e=.returned (.bool b)/\w'=w/\(b=true->l.length<=12/\ms.length<=12/\sl.length<=6)
def Box (g:FV)(b:Nat)(u:World):Prop:=b<u.heap.size/\∀i v,g.cells[i]? = some v->u.cell? ⟨b,i,none⟩=some v
def playPar (t:Int)(i:Nat):Int:=IntKind.u64.wrap t % ((i+1:Nat):Int)-1
noncomputable def playFlat (i:Nat) (x:FL):FL:=⟨playPar x.parent i,if x.msg.size<=100 then x.msg else ⟨#[]⟩,playF x.files⟩
noncomputable def playFl (l:List FL) (most:Nat):List FL:=(l.take most).mapIdx playFlat
theorem aXp (p:Int)(A:Option Addr)(n c:Nat)(w:World):(Instr.build 40 #[(0,.int .i64 p),(2,.slice A n c)]).run Tryz.prog w=.ok (.agg #[.int .i64 p,.string ⟨#[]⟩,.slice A n c]) w:=by
 go_simp
structure DrawnF (w wr:World) (ov:Value) (nl:List FLV):Prop where
 bel:Below w.heap.size w wr
 row:wr.ownsRow w.heap.size 40 3 ov nl.length (nl.flatMap FLV.cells)
 part:∀f∈nl,FlOk wr (obs ov) f
def FlatsIs (r:List FL)(w:World)(e:Ending) (w':World):Prop:=
 ∃(A:Option Addr) (c:Nat) (nl:List FLV),e=.returned (.slice A nl.length c)/\nl.map FLV.pl=r/\RdFl w' w'.heap.size A nl.length c nl/\Below w.heap.size w w'
end Go.Proofs.YtohblmepajhpaaaGreatDoor
namespace Go.Proofs.YtohblmepajhpaaaGreatDoor
def outP (a b c:List FV)(p:ByteArray):Option FV:=
 match findP a p,findP b p,findP c p with
 | some f,some o,some t=>some (bothOut f o t).1
 | some _,_,_=>none
 | none,some o,_=>some o
 | none,none,r=>r
theorem aEf {f:FV}(h:FileOk f):treeOk [f]=true:=by
 refine aAx.2 ⟨by simp,fun g hg=>?_,aEi (List.pairwise_singleton _ _),fun g hg k hk=>?_⟩
 ·simp only[List.mem_singleton] at hg;subst hg;exact h
 simp only[List.mem_singleton] at hg hk;subst hg;subst hk;exact aLh _
theorem aVf (b:List FV):pairsF [] b=[]:=by
 refine List.eq_nil_iff_forall_not_mem.2 fun q hq=>?_
 obtain ⟨f,h,_⟩:=bDb.1 ((aEp [] b).from_ q hq)
 simp at h
theorem aJi (g:FV)(p:ByteArray):findP [g] p=if g.path=p then some g else none:=by
 unfold findP
 rw[List.find?_cons]
 by_cases h:g.path=p<;>simp[h]
theorem bFf {a b c:List FV}{fs:List FV}{cl:List CL}(ha:treeOk a=true)(hb:treeOk b=true)(hc:treeOk c=true)(h:wholeF a b c=(fs,cl))(ht:treeOk (sortF fs)=true):treemergeF a b c=(sortF fs,sortC cl,0):=by
 rw[treemergeF,if_neg (by rw[ha,hb,hc];simp),h]
 dsimp only
 rw[if_neg (by rw[ht];decide)]
theorem aPj (b:List FV):addedF [] b=b:=by
 refine List.filter_eq_self.2 fun g _=>?_
 rw[aVf];rfl
theorem aUe (b c:List FV):acts [] b c=b.map (actA c)++(c.filter fun y=>(findP b y.path).isNone).map fun y=>(y,0):=by
 unfold acts
 rw[aPj,aPj];rfl
where
 treemerge_theirs_nil {u:FV} (h:FileOk u):treemergeF [] [u] [u]=([u],[],0):=by
  have e:acts [] [u] [u]=[(u,0)]:=by
   rw[aUe]
   have h1:actA [u] u=(u,0):=by unfold actA;rw[aJi,if_pos rfl];simp
   rw[List.map_singleton,h1,List.filter_cons,aJi,if_pos rfl];rfl
  have hw:wholeF [] [u] [u]=([u],[]):=by rw[aHx,e];rfl
  exact bFf aId (aEf h) (aEf h) hw (aEf h)
theorem aWd {u v:FV}(hp:v.path≠u.path):acts [] [u] [v]=[(u,0),(v,0)]:=by
 rw[aUe]
 have h1:actA [v] u=(u,0):=by
  unfold actA
  rw[aJi,if_neg hp]
 have h2:(findP [u] v.path).isNone=true:=by rw[aJi,if_neg (fun e=>hp e.symm)];rfl
 rw[List.map_singleton,h1,List.filter_cons,if_pos h2];rfl
theorem bBi {u v:FV}(h:FileOk u)(hv:FileOk v)(hc:clashP u.p v.p=false):(treemergeF [] [u] [v]).1.length=2/\(treemergeF [] [u] [v]).2=([],0):=by
 have hp:v.path≠u.path:=fun e=>by
  unfold clashP at hc
  rw[FV.p_inj.2 e] at hc
  simp at hc
 have hw:wholeF [] [u] [v]=([u,v],[]):=by
  rw[aHx,aWd hp]
  show putX (putX ([],[]) (u,0)) (v,0)=_
  have h1:putX ([],[]) (u,0)=([u],[]):=rfl
  rw[h1]
  unfold putX putM
  rw[if_neg (by simp[hc])];rfl
 have ht:treeOk (sortF [u,v])=true:=bEb (by simp) (fun f hf=>by
  simp only[List.mem_cons,List.mem_nil_iff,or_false] at hf
  rcases hf with rfl | rfl
  ·exact h
  exact hv) (List.pairwise_cons.2 ⟨fun x hx=>by simp only[List.mem_singleton] at hx;subst hx;exact hc,List.pairwise_singleton _ _⟩)
 rw[bFf aId (aEf h) (aEf hv) hw ht]
 exact ⟨by rw[aKz];rfl,rfl⟩
def wX:FV:=⟨⟨#[97]⟩,false,⟨#[120,10]⟩⟩
def wY:FV:=⟨⟨#[97]⟩,false,⟨#[121,10]⟩⟩
def wB:FV:=⟨⟨#[98]⟩,false,⟨#[]⟩⟩
theorem okWB:FileOk wB:=⟨by decide +kernel,by decide +kernel⟩
end Go.Proofs.YtohblmepajhpaaaGreatDoor
namespace Go.Proofs.YtohblmepajhpaaaGreatDoor
open Go.RowKit
def wA:FV:=⟨⟨#[97]⟩,false,⟨#[]⟩⟩
theorem okWA:FileOk wA:=⟨by decide +kernel,by decide +kernel⟩
def awakeL:List FL:=[⟨-1,⟨#[]⟩,[]⟩,⟨0,⟨#[97]⟩,[wA]⟩,⟨0,⟨#[]⟩,[wB]⟩]
theorem aQz:∃fs:List FV,fs.length=2/\rebaseF awakeL [] 1 2 []=(⟨[⟨2,⟨#[97]⟩,fs⟩],[(1,[3])],-1,[],[]⟩,0):=by
 obtain ⟨h1,h2⟩:=bBi okWB okWA (by decide +kernel)
 refine ⟨(treemergeF [] [wB] [wA]).1,h1,?_⟩
 have hp:parF awakeL=[-1,0,0]:=rfl
 have ha:argsOk awakeL [] 1 2=true:=by
  have hr:rightL awakeL []=true:=by
   unfold rightL
   rw[hp]
   simp only[awakeL,List.all_cons,List.all_nil,aId,aEf okWA,aEf okWB]
   decide +kernel
  unfold argsOk
  rw[hr]
  decide +kernel
 have hm:mergedOn awakeL [] 1 2=treemergeF [] [wB] [wA]:=rfl
 have ho:oneOn [] awakeL 1 2=.ok (awakeL++[⟨2,⟨#[97]⟩,(treemergeF [] [wB] [wA]).1⟩]):=by
  unfold oneOn
  rw[hm,h2,if_neg (by decide),if_neg (fun h=>h rfl),if_neg (by decide +kernel)]
  rfl
 have hv:moved (parF awakeL) [] 1=[1]:=by rw[hp];decide +kernel
 have hb:above (parF awakeL) 1 2=false:=by rw[hp];decide +kernel
 have hq:par (parF awakeL) 1=0:=by rw[hp];decide +kernel
 have hall:allF [] [1] awakeL 1 2=.ok (awakeL++[⟨2,⟨#[97]⟩,(treemergeF [] [wB] [wA]).1⟩],[(1,[3])]):=by
  unfold allF
  rw[if_neg (by rw[hb];decide),if_neg (by rw[hq];decide),runF',hq,show nowF [] 2 0=2 from rfl,ho]
  rfl
 unfold rebaseF
 rw[if_neg (by rw[ha];decide),hv,hall]
 rfl
theorem aOx (s:ByteArray)(w:World):(Instr.build 48 #[(0,.string s)]).run Tryz.prog w=.ok (.agg #[.string s,.bool false,.string ⟨#[]⟩]) w:=by
 go_simp
theorem bAl (p:Int)(w:World):(Instr.build 40 #[(0,.int .i64 p)]).run Tryz.prog w=.ok (.agg #[.int .i64 p,.string ⟨#[]⟩,.slice none 0 0]) w:=by
 go_simp
theorem aJz (p:Int)(m:ByteArray)(A:Option Addr)(n c:Nat)(w:World):(Instr.build 40 #[(0,.int .i64 p),(1,.string m),(2,.slice A n c)]).run Tryz.prog w=.ok (.agg #[.int .i64 p,.string m,.slice A n c]) w:=by
 go_simp
theorem aTl (w:World)(l:List FV)(xs:Array Value)(hx:xs.toList=l.flatMap FV.cells)(hf:∀f∈l,f.path.size<=140737488351232/\f.text.size<=140737488351232) :
  RdF (w.alloc (.cells xs 48)) (w.alloc (.cells xs 48)).heap.size (some ⟨w.heap.size,0,none⟩) l.length l.length l:=
 ⟨aMe (heap_alloc_new w _) (by rw[FV.len_flat]) (Nat.le_refl _) fun j u hu=>by rw[<-hx] at hu;simpa using hu,rfl,hf⟩
def awakeV (q:Nat):List FLV:=[⟨-1,⟨#[]⟩,none,0,[]⟩,⟨0,⟨#[97]⟩,some ⟨q,0,none⟩,1,[wA]⟩,⟨0,⟨#[]⟩,some ⟨q+1,0,none⟩,1,[wB]⟩]
theorem aRv {w:World}(hm:Lm w):Calls Tryz.prog 10 #[] w (BoolBelow true w):=by
 have h1:=fun u=>aOx ⟨#[97]⟩ u
 have h2:=fun u=>aOx ⟨#[98]⟩ u
 have h3:=fun u=>bAl (-1) u
 have h4:=aJz
 have h5:=aXp
 obtain ⟨V1,e1⟩:∃V,V=w.alloc (.cells #[.string ⟨#[97]⟩,.bool false,.string ⟨#[]⟩] 48):=⟨_,rfl⟩
 obtain ⟨V2,e2⟩:∃V,V=V1.alloc (.cells #[.string ⟨#[98]⟩,.bool false,.string ⟨#[]⟩] 48):=⟨_,rfl⟩
 obtain ⟨V3,e3⟩:∃V,V=V2.alloc (.cells #[.int .i64 (-1),.string ⟨#[]⟩,.slice none 0 0,.int .i64 0,.string ⟨#[97]⟩,.slice (some ⟨w.heap.size,0,none⟩) 1 1,.int .i64 0,.string ⟨#[]⟩,.slice (some ⟨w.heap.size+1,0,none⟩) 1 1] 40):=⟨_,rfl⟩
 have b1:Below w.heap.size w V1:=by rw[e1];exact (Below.refl _ _).alloc (Nat.le_refl _) _
 have b2:Below V1.heap.size V1 V2:=by rw[e2];exact (Below.refl _ _).alloc (Nat.le_refl _) _
 have b3:Below V2.heap.size V2 V3:=by rw[e3];exact (Below.refl _ _).alloc (Nat.le_refl _) _
 have s1:V1.heap.size=w.heap.size+1:=by rw[e1];simp
 have s2:V2.heap.size=w.heap.size+1+1:=by rw[e2];simp[s1]
 have b23:=b2.trans (b3.mono b2.size)
 have b13:=b1.trans (b23.mono b1.size)
 have r1:RdF V3 V3.heap.size (some ⟨w.heap.size,0,none⟩) 1 1 [wA]:=(show RdF V1 V1.heap.size (some ⟨w.heap.size,0,none⟩) 1 1 [wA] by rw[e1];exact aTl w [wA] _ rfl (by decide)).to b23 b23.size
 have r2:RdF V3 V3.heap.size (some ⟨w.heap.size+1,0,none⟩) 1 1 [wB]:=(show RdF V2 V2.heap.size (some ⟨w.heap.size+1,0,none⟩) 1 1 [wB] by rw[e2,<-s1];exact aTl V1 [wB] _ rfl (by decide)).to b3 b3.size
 have r3:RdFl V3 V3.heap.size (some ⟨w.heap.size+1+1,0,none⟩) 3 3 (awakeV w.heap.size):=by
  refine ⟨?_,rfl,fun f hf=>?_⟩
  ·rw[e3,<-s2]
   exact aNq (heap_alloc_new V2 _) rfl rfl
  simp only[awakeV,List.mem_cons,List.mem_nil_iff,or_false] at hf
  rcases hf with rfl | rfl | rfl
  ·exact ⟨RdF.none_ _ _,Nat.zero_le _,(show I64 (-1) from ⟨by decide,by decide⟩),Nat.zero_le _⟩
  ·exact ⟨r1,(show 1<=17592186044416 by decide),(show I64 0 from ⟨by decide,by decide⟩),(show 1<=140737488351232 by decide)⟩
  exact ⟨r2,(show 1<=17592186044416 by decide),(show I64 0 from ⟨by decide,by decide⟩),Nat.zero_le _⟩
 obtain ⟨fs,hfs,hre⟩:=aQz
 have K:=aMi (l:=awakeV w.heap.size) (ms:=[]) (sl:=[]) (source:=1) (dest:=2) (hm.to b13) (show 3<=64 by decide) (Nat.zero_le _) (Nat.zero_le _) r3 (RdM.none_ _ _) (RdS.none_ _ _)
 rw[show (awakeV w.heap.size).map FLV.pl=awakeL from rfl,List.map_nil,hre] at K
 replace K:Calls Tryz.prog 13 #[.slice (some ⟨w.heap.size+1+1,0,none⟩) 3 3,.slice none 0 0,.int .i64 1,.int .i64 2,.slice none 0 0] V3 (MovedIs [] 0 (⟨[⟨2,⟨#[97]⟩,fs⟩],[(1,[3])],-1,[],[]⟩,0) V3):=K
 have HB:=hid b13
 have E3:=hid (show V3=((w.alloc (.cells #[.string ⟨#[97]⟩,.bool false,.string ⟨#[]⟩] 48)).alloc (.cells #[.string ⟨#[98]⟩,.bool false,.string ⟨#[]⟩] 48)).alloc (.cells #[.int .i64 (-1),.string ⟨#[]⟩,.slice none 0 0,.int .i64 0,.string ⟨#[97]⟩,.slice (some ⟨w.heap.size,0,none⟩) 1 1,.int .i64 0,.string ⟨#[]⟩,.slice (some ⟨w.heap.size+1,0,none⟩) 1 1] 40) by rw[e3,e2,e1])
 have HFS:=hid hfs
 clear b1 b2 b3 s1 s2 b23 b13 r1 r2 r3 e1 e2 e3 hre hfs
 rw[E3.out] at K
 go_enter Tryz.func10,Tryz.ntmps10
 go_wp2_with fail
 refine K.mono ?_
 rintro e w1 ⟨hb1,AN,AK,AF,AC,cn,ck,cf,cc,nl,kl,h6,h7,rfl,rn,_,_,_,_⟩
 obtain ⟨g,rfl,hg⟩:∃g,nl=[g]/\g.pl=⟨2,⟨#[97]⟩,fs⟩:=by
  cases nl with
  | nil=>exact absurd (congrArg List.length h6) (by simp)
  | cons g t=>
   cases t with
   | nil=>exact ⟨g,rfl,by injection h6⟩
   | cons _ _=>exact absurd (congrArg List.length h6) (by simp)
 obtain ⟨gp,gm,gA,gc,gf⟩:=g
 simp only[FLV.pl,FL.mk.injEq] at hg
 obtain ⟨rfl,rfl,rfl⟩:=hg
 obtain ⟨b0,o0,f,eA,hbb,hx,hfm,g0,g1,g2⟩:=rn.get (k:=0) (show 0<1 by decide)
 injection hx with hx
 subst hx eA
 have hl:gf.length=2:=HFS.out
 have HBB:=hid (HB.out.trans (by rw[<-E3.out] at hb1;exact hb1.mono HB.out.size))
 rw[Nat.zero_mul,Nat.add_zero] at g0 g1 g2
 simp only[hl] at g2
 clear K hb1 h1 h2 h3 h4 h5 E3 HB h6 h7 rn hfm HFS
 dsimp only[List.length_cons,List.length_nil]
 go_wp2
 go_ret
 exact ⟨rfl,HBB.out.alloc HBB.out.size _⟩
theorem E78:Elem Tryz.prog 102 5 1 1:=aBq (by kernel_rfl)
def dg (n:Nat):ByteArray:=⟨#[UInt8.ofNat (48+n)]⟩
theorem bCy {A:Option Addr}{n c BB:Nat}{l:List UInt8}{w:World}(h:Rd w BB 1 A n c (cells8 l)):(convert 102 9 (.slice A n c)).run Tryz.prog w=.ok (.string ⟨l.toArray⟩) w:=by
 have hl:l.length=n:=by have:=h.len;rw[aIe] at this;omega
 rcases A with _ | a
 ·have hn:n=0:=by
   rcases Nat.eq_zero_or_pos n with h0 | h0
   ·exact h0
   obtain ⟨b,o,e,_⟩:=h.at_ h0
   cases e
  subst hn
  obtain rfl:l=[]:=List.eq_nil_of_length_eq_zero hl
  exact run_convert_bytes_nil w 102 5 Tryz.underlying102 Tryz.underlying5 0 c 9 Tryz.underlying9
 subst hl
 refine run_convert_bytes_back w 102 9 5 a c l Tryz.underlying102 Tryz.underlying5 Tryz.underlying9 fun j hj=>?_
 obtain ⟨b,o,e,_,hc⟩:=h.at_ (by omega)
 cases e
 rw[show (⟨b,o,none⟩:Addr).add j=⟨b,o+j,none⟩ from by unfold Addr.add;split<;>simp_all]
 exact hc j _ (by rw[cells8,List.getElem?_map,List.getElem?_eq_getElem hj];rfl)
def decF:Nat->Nat->List UInt8
 | 0,_=>[]
 | f+1,v=>if v<10 then [UInt8.ofNat (48+v)] else decF f (v / 10)++[UInt8.ofNat (48+v % 10)]
theorem aTy:∀(f g v:Nat),v<f->v<g->decF f v=decF g v
 | 0,_,_,h,_=>absurd h (Nat.not_lt_zero _)
 | _+1,0,_,_,h=>absurd h (Nat.not_lt_zero _)
 | f+1,g+1,v,h1,h2=>by
  unfold decF
  by_cases e:v<10
  ·rw[if_pos e,if_pos e]
  rw[if_neg e,if_neg e,aTy f g (v / 10) (by omega) (by omega)]
def decD (v:Nat):List UInt8:=decF (v+1) v
def dec (v:Nat):ByteArray:=⟨(decD v).toArray⟩
theorem aLo {v:Nat}(h:v<10):dec v=dg v:=by rw[dec,decD,decF,if_pos h];rfl
theorem aTu {v:Nat}(h:¬v<10):dec v=dec (v / 10)++dg (v % 10):=by
 have e:decD v=decD (v / 10)++[UInt8.ofNat (48+v % 10)]:=by
  rw[decD,decF,if_neg h,aTy v (v / 10+1) (v / 10) (by omega) (by omega),decD]
 rw[dec,e]
 simp[dec,dg];rfl
theorem aYp:∀(k v:Nat),v<10 ^ k->1<=k->(dec v).size<=k
 | 0,v,_,h=>by omega
 | k+1,v,h,_=>by
  by_cases h1:v<10
  ·rw[aLo h1];show 1<=_;omega
  rw[aTu h1,ByteArray.size_append]
  have h2:1<=k:=by
   rcases Nat.eq_zero_or_pos k with h0 | h0
   ·subst h0;omega
   exact h0
  have:=aYp k (v / 10) (by rw[Nat.div_lt_iff_lt_mul (by omega)];rw[Nat.pow_succ] at h;omega) h2
  show _+1<=_
  omega
theorem aYo {v:World}{g:Nat}{r:Nat}(hr:r<10)(h:v.heap[g]? = some (.cells #[.int .u8 ((48+r:Nat):Int)] 5 (0,0))):(convert 102 9 (.slice (some ⟨g,0,none⟩) 1 1)).run Tryz.prog v=.ok (.string (dg r)) v:=
 bCy (l:=[UInt8.ofNat (48+r)]) (BB:=v.heap.size) ⟨rfl,Nat.le_refl _,fun _=>⟨_,_,rfl,(Array.getElem?_eq_some_iff.1 h).1,fun j u hu=>by
  have hz':(UInt8.ofNat (48+r)).toNat=48+r:=by rw[UInt8.toNat_ofNat'];exact Nat.mod_eq_of_lt (by omega)
  cases j with
  | zero=>simp only[cells8,List.map_cons,List.getElem?_cons_zero,Option.some.injEq,hz'] at hu;subst hu;rw[World.cell?,h];rfl
  | succ j=>simp[cells8] at hu⟩⟩
theorem aNo {S:World->Prop}{a:Act}{w:World}{K:Act->World->Prop}{dst:Option Tmp}{ty:TypeId}{x:Operand}{q:Bool}{g:Option (Tmp×Bool)}{v r:Value}
  (hx:a.eval x=v) (hc:(convert 102 9 v).run Tryz.prog w=.ok r w) (hK:S w/\K (a.put dst r) w):effq Tryz.prog S ⟨q,dst,.convert 102 9 x,ty,g⟩ a w K:=by
 refine aYe (fun p af g=>?_) hK
 unfold execOp
 simp only[hx,hc,Sem.run_bind,Sem.run_pure,Result.andThen_ok]
theorem aNu:∀(f v:Nat),v<10 ^ f->1<=f->f<=18->∀w:World,Calls Tryz.prog 24 #[.int .i64 (v:Int)] w fun e w'=>e=.returned (.string (dec v))/\Below w.heap.size w w':=by
 intro f
 induction f with
 | zero=>intro v _ h;omega
 | succ f ih=>
  intro v hv _ hf w
  by_cases h:v<10
  ·have hc:(convert 102 9 (.slice (some ⟨w.heap.size,0,none⟩) 1 1)).run Tryz.prog (w.alloc (.cells #[.int .u8 (48+(v:Int))] 5))=.ok (.string (dec v)) (w.alloc (.cells #[.int .u8 (48+(v:Int))] 5)):=by
    have:=aYo (v:=w.alloc (.cells #[.int .u8 ((48+v:Nat):Int)] 5)) (g:=w.heap.size) h (heap_alloc_new _ _)
    rw[aLo h]
    rwa [show ((48+v:Nat):Int)=48+(v:Int) from by omega] at this
   go_enter Tryz.func24,Tryz.ntmps24
   go_wp2
   go_ret
   exact ⟨rfl,(Below.refl _ w).alloc (Nat.le_refl _) _⟩
  have hf1:1<=f:=by
   rcases Nat.eq_zero_or_pos f with h0 | h0
   ·subst h0;omega
   exact h0
  have hq:v / 10<10 ^ f:=by rw[Nat.div_lt_iff_lt_mul (by omega)];rw[Nat.pow_succ] at hv;omega
  have C:=ih (v / 10) hq hf1 (by omega)
  rw[show ((v / 10:Nat):Int)=(v:Int) / 10 from by omega] at C
  have hl1:=aYp f (v / 10) hq hf1
  have HD:=hid (aTu h)
  have hv18:v<1000000000000000000:=Nat.lt_of_lt_of_le hv (Nat.le_trans (Nat.pow_le_pow_right (by omega) hf) (by decide))
  have hu8:IntKind.u8.wrap (48+(v:Int) % 10)=48+(v:Int) % 10:=by
   have:(0:Int)<=48+(v:Int) % 10/\48+(v:Int) % 10<256:=by omega
   simp[IntKind.wrap,IntKind.signed,IntKind.bits];omega
  clear ih hv hq
  go_enter Tryz.func24,Tryz.ntmps24
  go_wp2
  refine aAs (fun v'=>Below w.heap.size w v') (.q 0 (.q 1 (.q 3 (.q 4 (.q 5 (.q 6 (.two 2 (.one 7 (.one 8 (.q 9 (.q 10 .leaf)))) 7 (.two 2 (.one 8 (.q 9 (.q 10 .leaf))) 8 (.one 2 (.q 9 (.q 10 .leaf))))))))))) mixed (by kernel_rfl) (Below.refl _ w).drew ?_
  intro T M Q hT hT' hM hQ
  clear hM
  refine aDb ?_
  intro O hO
  have t0:=hO true 0
  have t1:=hO true 1
  have t3:=hO true 3
  have t4:=hO true 4
  have t5:=hO true 5
  have t6:=hO true 6
  have t9:=hO true 9
  have t10:=hO true 10
  have e2:=hO false 2
  have e7:=hO false 7
  have e8:=hO false 8
  simp only[qcmp] at t0 t1 t3 t4 t5 t6 t9 t10 e2 e7 e8
  clear hO
  simp (maxSteps:=9^7) only[↓wt_q,↓aAw,t0,t1,t3,t4,t5,t6,e2,e7,↓qpre,aAb,aAd,aAc,hu8]
  have hdg:(dg (v % 10)).size=1:=rfl
  have hbv:Below w.heap.size w w.drew:=(Below.refl _ w).drew
  have hcd:∀(u:World) (g:Nat),u.heap[g]? = some (.cells #[.int .u8 (48+(v:Int) % 10)] 5 (0,0))->(convert 102 9 (.slice (some ⟨g,0,none⟩) 1 1)).run Tryz.prog u=.ok (.string (dg (v % 10))) u:=fun u g hu=>aYo (by omega) (by rw[show ((48+v % 10:Nat):Int)=48+(v:Int) % 10 from by omega];exact hu)
  refine ⟨⟨by omega,by omega⟩,by unfold inI64;omega,⟨by omega,by omega⟩,by unfold inI64;omega,?_,?_⟩
  ·refine aAf (by kernel_rfl) (C _) rfl rfl ?_
   rintro e v1 ⟨rfl,hb⟩
   have hbn:=hbv.trans (hb.mono hbv.size)
   clear hbv;have hbv:=hbn;clear hbn
   refine ⟨_,rfl,hT _ hbv,?_⟩
   simp (maxSteps:=9^7) only[↓aAk,e7,aAb,aAc]
   refine aSd E78 rfl rfl ⟨hT _ (hbv.alloc hbv.size _),?_⟩
   have hal:=heap_alloc_new (v1) (.cells #[.int .u8 (48+(v:Int) % 10)] 5)
   have hbn:=hbv.alloc hbv.size (.cells #[.int .u8 (48+(v:Int) % 10)] 5)
   clear hbv;have hbv:=hbn;clear hbn
   simp (maxSteps:=9^7) only[↓aAk,e8,aAb,aAc]
   refine aNo rfl (hcd _ _ hal) ⟨hT _ hbv,?_⟩
   simp (maxSteps:=9^7) only[↓aCq,↓wt_q,t9,t10,↓qpre,aAb,aAc]
   refine ⟨by rw[hdg];omega,?_⟩
   refine hQ _ _ ?_
   clear hQ hT hT' C t0 t1 t3 t4 t5 t6 t9 t10 e2 e7 e8
   rw[<-HD.out]
   have HB:=hid hbv
   clear hbv
   go_wp2
   go_ret
   exact ⟨rfl,HB.out⟩
  refine aSd E78 rfl rfl ⟨hT _ (hbv.alloc hbv.size _),?_⟩
  have hal:=heap_alloc_new (w.drew) (.cells #[.int .u8 (48+(v:Int) % 10)] 5)
  have hbn:=hbv.alloc hbv.size (.cells #[.int .u8 (48+(v:Int) % 10)] 5)
  clear hbv;have hbv:=hbn;clear hbn
  simp (maxSteps:=9^7) only[↓aAw,e2,e8,aAb,aAc]
  refine ⟨?_,?_⟩
  ·refine aAf (by kernel_rfl) (C _) rfl rfl ?_
   rintro e v1 ⟨rfl,hb⟩
   have hbn:=hbv.trans (hb.mono hbv.size)
   clear hbv;have hbv:=hbn;clear hbn
   refine ⟨_,rfl,hT _ hbv,?_⟩
   simp (maxSteps:=9^7) only[↓aAk,e8,aAb,aAc]
   replace hal:=(hb.block _ (Array.getElem?_eq_some_iff.1 hal).1).trans hal
   refine aNo rfl (hcd _ _ hal) ⟨hT _ hbv,?_⟩
   simp (maxSteps:=9^7) only[↓aCq,↓wt_q,t9,t10,↓qpre,aAb,aAc]
   refine ⟨by rw[hdg];omega,?_⟩
   refine hQ _ _ ?_
   clear hQ hT hT' C t0 t1 t3 t4 t5 t6 t9 t10 e2 e7 e8
   rw[<-HD.out]
   have HB:=hid hbv
   clear hbv
   go_wp2
   go_ret
   exact ⟨rfl,HB.out⟩
  refine aNo rfl (hcd _ _ hal) ⟨hT _ hbv,?_⟩
  simp (maxSteps:=9^7) only[↓aAk,e2,aAb,aAc]
  refine aAf (by kernel_rfl) (C _) rfl rfl ?_
  rintro e v1 ⟨rfl,hb⟩
  have hbn:=hbv.trans (hb.mono hbv.size)
  clear hbv;have hbv:=hbn;clear hbn
  refine ⟨_,rfl,hT _ hbv,?_⟩
  simp (maxSteps:=9^7) only[↓aCq,↓wt_q,t9,t10,↓qpre,aAb,aAc]
  refine ⟨by rw[hdg];omega,?_⟩
  refine hQ _ _ ?_
  clear hQ hT hT' C t0 t1 t3 t4 t5 t6 t9 t10 e2 e7 e8
  rw[<-HD.out]
  have HB:=hid hbv
  clear hbv
  go_wp2
  go_ret
  exact ⟨rfl,HB.out⟩
end Go.Proofs.YtohblmepajhpaaaGreatDoor
namespace Go.Proofs.YtohblmepajhpaaaGreatDoor
def riseB:List FV->Bool
 | a::b::l=>decide (a.p<b.p) && riseB (b::l)
 | _=>true
theorem aTi:∀{l:List FV},riseB l=true->Rise l
 | [],_=>fun i a b h=>by simp at h
 | [a],_=>fun i x y h1 h2=>by cases i<;>simp at h2
 | a::b::l,h=>fun i x y h1 h2=>by
  simp only[riseB,Bool.and_eq_true,decide_eq_true_eq] at h
  cases i with
  | zero=>simp at h1 h2;subst h1;subst h2;exact h.1
  | succ i=>exact aTi h.2 i x y (by simpa using h1) (by simpa using h2)
def fileB (f:FV):Bool:=pathOk f.p && decide (f.text.size<=20000)
def treeB (l:List FV):Bool:=decide (l.length<=100) && l.all fileB && riseB l && l.all fun f=>l.all fun g=>!within f.p g.p
theorem aFa {l:List FV}(h:treeB l=true):treeOk l=true:=by
 simp only[treeB,Bool.and_eq_true,decide_eq_true_eq,List.all_eq_true,fileB,Bool.not_eq_true'] at h
 exact aAx.2 ⟨h.1.1.1,h.1.1.2,aTi h.1.2,h.2⟩
def putC (l:List FV)(f:FV):Option (List FV):=
 if (treeB l && fileB f && !hasP l f.path && !clashF l f.path && decide (l.length<100))=true then some (sortedIn l f) else none
theorem bEl {l r:List FV}{f:FV}(h:putC l f=some r):putF l f=(r,0):=by
 unfold putC at h
 split at h
 ·rename_i hc
  simp only[Bool.and_eq_true,decide_eq_true_eq,fileB,Bool.not_eq_true'] at hc
  injection h with h
  subst h
  obtain ⟨⟨⟨⟨h1,h2⟩,h3⟩,h4⟩,h5⟩:=hc
  unfold putF
  rw[if_neg (by rw[aFa h1];decide),if_neg (by rw[h2.1];decide),if_neg (by omega),if_neg (by rw[h3];decide),if_neg (by rw[h4];decide),if_neg (by omega)]
 cases h
def mergeC (b o t:List FV):Option (List FV):=
 let r:=wholeF b o t
 let s:=sortF r.1
 if (treeB b && treeB o && treeB t && treeB s && decide (r.2.length=0))=true then some s else none
theorem aZo {b o t r:List FV}(h:mergeC b o t=some r):treemergeF b o t=(r,[],0):=by
 unfold mergeC at h
 dsimp only at h
 split at h
 ·rename_i hc
  simp only[Bool.and_eq_true,decide_eq_true_eq] at hc
  injection h with h
  obtain ⟨⟨⟨⟨h1,h2⟩,h3⟩,h4⟩,h5⟩:=hc
  have e:(wholeF b o t).2=[]:=List.eq_nil_of_length_eq_zero h5
  rw[treemergeF,if_neg (by rw[aFa h1,aFa h2,aFa h3];simp),if_neg (by rw[aFa h4];decide),e,h]
  rfl
 cases h
def runC (ps:List Int)(dest:Int):List Int->List (Int×Int)->List FL->Option (List FL)
 | [],_,l=>some l
 | c::cs,now,l=>
  match mergeC (filesAt l (par (parF l) c)) (filesAt l (nowF now dest (par ps c))) (filesAt l c) with
  | none=>none
  | some f=>if l.length<2000 then runC ps dest cs ((c,(l.length:Int))::now) (l++[⟨nowF now dest (par ps c),msgAt l c,f⟩]) else none
theorem bAy {ps:List Int}{dest:Int}:∀(cs:List Int) (now:List (Int×Int)) (l:List FL) (k:List (Int×List Int)) {r:List FL},runC ps dest cs now l=some r->∃k',runF' [] ps dest cs now l k=.ok (r,k')
 | [],now,l,k,r,h=>by
  simp only[runC,Option.some.injEq] at h
  subst h
  exact ⟨k,rfl⟩
 | c::cs,now,l,k,r,h=>by
  rw[runC] at h
  split at h
  ·cases h
  rename_i f hf
  split at h
  ·rename_i hl
   have hm:mergedOn l [] c (nowF now dest (par ps c))=(f,[],0):=aZo hf
   have ho:oneOn [] l c (nowF now dest (par ps c))=.ok (l++[⟨nowF now dest (par ps c),msgAt l c,f⟩]):=by
    unfold oneOn
    rw[hm,if_neg (fun h=>h rfl),if_neg (fun h=>h rfl),if_neg (by omega)]
   rw[runF',ho]
   exact bAy cs _ _ _ h
  cases h
def rebaseC (l:List FL)(source dest:Int):Option (List FL):=
 if (rightP (parF l) && l.all (fun f=>treeB f.files) && (decide (0<=source) && decide (source<l.length)) && (decide (-1<=dest) && decide (dest<l.length)) && !above (parF l) source dest && decide (par (parF l) source≠dest))=true then
  (runC (parF l) dest (moved (parF l) [] source) [] l).map fun r=>r.drop l.length
 else none
theorem aVi {l r:List FL}{source dest:Int}(h:rebaseC l source dest=some r):∃k,rebaseF l [] source dest []=(⟨r,k,-1,[],[]⟩,0):=by
 unfold rebaseC at h
 split at h
 ·rename_i hc
  simp only[Bool.and_eq_true,decide_eq_true_eq,Bool.not_eq_true'] at hc
  obtain ⟨⟨⟨⟨⟨h1,h2⟩,h3⟩,h4⟩,h5⟩,h6⟩:=hc
  obtain ⟨q,hq,rfl⟩:=Option.map_eq_some_iff.1 h
  obtain ⟨k,hk⟩:=bAy _ _ _ [] hq
  refine ⟨k,?_⟩
  have hr:rightL l []=true:=by
   unfold rightL
   rw[h1,show l.all (fun f=>treeOk f.files)=true from List.all_eq_true.2 fun f hf=>aFa (List.all_eq_true.1 h2 f hf)]
   rfl
  have ha:argsOk l [] source dest=true:=by
   unfold argsOk
   rw[hr,decide_eq_true h3.1,decide_eq_true h3.2,decide_eq_true h4.1,decide_eq_true h4.2]
   rfl
  unfold rebaseF allF
  rw[if_neg (by rw[ha];decide),if_neg (by rw[h5];decide),if_neg h6,hk]
  rfl
 cases h
def nameD (c:UInt8)(i:Nat):ByteArray:=⟨#[c]⟩++dec i
def upAt (l:List FL)(i:Nat):Nat:=if 0<i then l.length-1 else 0
noncomputable def growF (l:List FL) (p:Nat) (s:ByteArray):List FL:=l++[⟨(p:Int),s,(putF (filesAt l p) ⟨s,false,s++⟨#[10]⟩⟩).1⟩]
noncomputable def lineF (c:UInt8) (l:List FL):Nat->List FL
 | 0=>l
 | i+1=>growF (lineF c l i) (upAt (lineF c l i) i) (nameD c i)
theorem aLn (c:UInt8)(l:List FL)(i:Nat):(lineF c l i).length=l.length+i:=by
 induction i with
 | zero=>rfl
 | succ i ih=>rw[lineF,growF,List.length_append,ih];rfl
def growC (l:List FL)(p:Nat)(s:ByteArray):Option (List FL):=(putC (filesAt l p) ⟨s,false,s++⟨#[10]⟩⟩).map fun f=>l++[⟨(p:Int),s,f⟩]
def lineC (c:UInt8)(l:List FL):Nat->Option (List FL)
 | 0=>some l
 | i+1=>(lineC c l i).bind fun q=>growC q (upAt q i) (nameD c i)
theorem aOe {c:UInt8}{l:List FL}:∀{i:Nat} {r:List FL},lineC c l i=some r->lineF c l i=r
 | 0,r,h=>by injection h
 | i+1,r,h=>by
  rw[lineC] at h
  obtain ⟨q,hq,h⟩:=Option.bind_eq_some_iff.1 h
  obtain ⟨f,hf,rfl⟩:=Option.map_eq_some_iff.1 h
  rw[lineF,aOe hq,growF,bEl hf]
def rootL:List FL:=[⟨-1,⟨#[114]⟩,[]⟩]
def seesC (k a:Nat)(r:List FL)(i:Nat):Bool:=
 match r[i]? with
 | some x=>decide (x.files.length=k+i+1) && decide (x.msg=nameD 97 (a+i)) && (findP x.files (nameD 97 (a+i))).isSome && (decide (a=0) || !(findP x.files (nameD 97 (a-1))).isSome)
 | none=>false
def apartC (n k a:Nat):Bool:=
 match lineC 97 rootL n with
 | none=>false
 | some l1=>
  match lineC 98 l1 k with
  | none=>false
  | some l2=>
   match rebaseC l2 ((1+a:Nat):Int) ((l2.length-1:Nat):Int) with
   | none=>false
   | some r=>decide (r.length=n-a) && (List.range r.length).all (seesC k a r)
def apartAll:Bool:=(List.range 5).all fun n=>(List.range 5).all fun k=>(List.range (n+1)).all fun a=>apartC (n+1) (k+1) a
theorem aZu:apartAll=true:=by decide +kernel
noncomputable def twoF (n k:Nat):List FL:=lineF 98 (lineF 97 rootL n) k
structure ApartIs (n k a:Nat) (r:List FL):Prop where
 len:r.length=n-a
 sees:∀i x,r[i]? = some x->x.files.length=k+i+1/\x.msg=nameD 97 (a+i)/\(findP x.files (nameD 97 (a+i))).isSome=true/\(0<a->(findP x.files (nameD 97 (a-1))).isSome=false)
theorem bCq {n k a:Nat}(hn:1<=n/\n<=5)(hk:1<=k/\k<=5)(ha:a<n):∃r q,rebaseF (twoF n k) [] ((1+a:Nat):Int) (((twoF n k).length-1:Nat):Int) []=(⟨r,q,-1,[],[]⟩,0)/\ApartIs n k a r:=by
 have h:=aZu
 simp only[apartAll,List.all_eq_true,List.mem_range] at h
 have h1:=h (n-1) (by omega) (k-1) (by omega) a (by omega)
 rw[show n-1+1=n by omega,show k-1+1=k by omega] at h1
 unfold apartC at h1
 split at h1
 ·cases h1
 rename_i l1 e1
 split at h1
 ·cases h1
 rename_i l2 e2
 split at h1
 ·cases h1
 rename_i r e3
 have t:twoF n k=l2:=by rw[twoF,aOe e1,aOe e2]
 obtain ⟨q,hq⟩:=aVi e3
 refine ⟨r,q,by rw[t];exact hq,?_⟩
 simp only[Bool.and_eq_true,decide_eq_true_eq,List.all_eq_true,List.mem_range] at h1
 refine ⟨h1.1,fun i x hx=>?_⟩
 have h2:=h1.2 i (List.getElem?_eq_some_iff.1 hx).1
 unfold seesC at h2
 rw[hx] at h2
 simp only[Bool.and_eq_true,Bool.or_eq_true,decide_eq_true_eq,Bool.not_eq_true'] at h2
 refine ⟨h2.1.1.1,h2.1.1.2,h2.1.2,fun h0=>?_⟩
 rcases h2.2 with h3 | h3
 ·omega
 exact h3
end Go.Proofs.YtohblmepajhpaaaGreatDoor
