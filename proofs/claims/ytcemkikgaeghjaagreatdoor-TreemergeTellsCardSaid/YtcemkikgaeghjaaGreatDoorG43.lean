/- Texts of the walks, together: Walks: the document's whole: one, both. -/
import Derived.Test.YtcemkikgaeghjaaGreatDoorG31
import Derived.Test.YtcemkikgaeghjaaGreatDoorG38
import Derived.Test.YtcemkikgaeghjaaGreatDoorG42
set_option maxHeartbeats 8000000
set_option maxRecDepth 100000
open Go.Lib (hid)
namespace Go.Proofs.YtcemkikgaeghjaaGreatDoor
open Go.RowKit
theorem MD.setBox {Z:Nat->Obj->Prop}{w0 w:World}{mb b k N c:Nat}{A:Option Addr}{cv v:Value}{m:List FV×List CL}(h:MD Z w0 w mb A c cv m N)(hb:w0.heap.size<=b)(h1:mb≠b)(h2:∀x o s,A=some ⟨x,o,s⟩->x≠b)(h3:cv.ownBlock≠some b)(h4:∀j ob,Z j ob->j≠b):MD Z w0 (w.setCell ⟨b,k,none⟩ v) mb A c cv m N:=
 ⟨(Below.heap_setCell w ⟨b,k,none⟩ v mb h1).trans h.hs,aDv h.f1 fun x o ob e hx=>(Below.heap_setCell w ⟨b,k,none⟩ v x (h2 x o none e)).trans hx,h.fa,ownsRow_setCell_other h.c1 h3 _,h.lo,h.bel.setCell (p:=⟨b,k,none⟩) hb _,h.few1,h.few2,
   fun j ob hz=>⟨(Below.heap_setCell w ⟨b,k,none⟩ v j (h4 j ob hz)).trans (h.oth j ob hz).1,(h.oth j ob hz).2⟩,fun x o s e=>by simpa using h.lt x o s e⟩
def oneD (m:List FV×List CL)(f x:FV):List FV×List CL:=if f=x then m else putD m x 3
theorem aOu {Z:Nat->Obj->Prop}{w0 w:World}{mb N:Nat}{A:Option Addr}{c:Nat}{cv:Value}{m:List FV×List CL}{f x:FV}(h:MD Z w0 w mb A c cv m N)(hN:N<=100000)(hx:x.path.size<=1000000/\x.text.size<=1000000) :
  Calls Tryz.prog 36 #[.pointer (some ⟨mb,0,none⟩),.agg #[.string f.path,.bool f.exec,.string f.text],.agg #[.string x.path,.bool x.exec,.string x.text]] w (PutD Z w0 mb (oneD m f x) (N+1)):=by
 have hb0:Below w.heap.size w (w.alloc (.cells #[.string f.path,.bool f.exec,.string f.text] 28)):=(Below.refl _ _).alloc (Nat.le_refl _) _
 have hb1:=box2 w (.cells #[.string f.path,.bool f.exec,.string f.text] 28) (.cells #[.string x.path,.bool x.exec,.string x.text] 28)
 have hf:((w.alloc (.cells #[.string f.path,.bool f.exec,.string f.text] 28)).alloc (.cells #[.string x.path,.bool x.exec,.string x.text] 28)).heap[w.heap.size]? = some (.cells #[.string f.path,.bool f.exec,.string f.text] 28 (0,0)):=
  (((Below.refl _ (w.alloc (.cells #[.string f.path,.bool f.exec,.string f.text] 28))).alloc (Nat.le_refl _) _).block w.heap.size (by simp)).trans (heap_alloc_new _ _)
 have hxx:((w.alloc (.cells #[.string f.path,.bool f.exec,.string f.text] 28)).alloc (.cells #[.string x.path,.bool x.exec,.string x.text] 28)).heap[w.heap.size+1]? = some (.cells #[.string x.path,.bool x.exec,.string x.text] 28 (0,0)):=by
  have:=heap_alloc_new (w.alloc (.cells #[.string f.path,.bool f.exec,.string f.text] 28)) (.cells #[.string x.path,.bool x.exec,.string x.text] 28)
  simpa using this
 have HM:=hid (h.below hb1)
 have f0:=cell_of_row _ _ 0 _ _ _ hf
 have f1:=cell_of_row _ _ 1 _ _ _ hf
 have f2:=cell_of_row _ _ 2 _ _ _ hf
 have x0:=cell_of_row _ _ 0 _ _ _ hxx
 have x1:=cell_of_row _ _ 1 _ _ _ hxx
 have x2:=cell_of_row _ _ 2 _ _ _ hxx
 have hne:=fun u=>aWh f x u
 have K:=aAu (f:=x) (kind:=3) HM.out hN hx
 clear h hb0 hb1 hf hxx hN hx
 go_enter Tryz.func36,Tryz.ntmps36
 by_cases e:f=x
 ·have HE:=hid (show oneD m f x=m from if_pos e)
  have e1:(!decide (f=x))=false:=by simp[e]
  rw[e1] at hne
  clear e e1 K
  go_wp2
  refine bodyPost_end (results_none rfl _ _ _) rfl ?_
  exact ⟨rfl,_,_,_,by rw[HE.out];exact HM.out.more (Nat.le_succ N)⟩
 have HE:=hid (show oneD m f x=putD m x 3 from if_neg e)
 have e1:(!decide (f=x))=true:=by simp[e]
 rw[e1] at hne
 clear e e1
 go_wp2_with fail
 refine K.mono ?_
 rintro e w1 ⟨rfl,A',c',cv',hp⟩
 have HP:=hid hp
 clear K hp HM
 go_wp2
 refine bodyPost_end (results_none rfl _ _ _) rfl ?_
 exact ⟨rfl,_,_,_,by rw[HE.out];exact HP.out⟩
theorem aVf {Z:Nat->Obj->Prop}{w0 w:World}{mb N:Nat}{A:Option Addr}{c:Nat}{cv:Value}{m:List FV×List CL}{f o t:FV}(hL:Lm w)(h:MD Z w0 w mb A c cv m N)(hN:N<=100000)(hf:f.path.size<=20000/\f.text.size<=20000)(ho:o.path.size<=20000/\o.text.size<=20000)(ht:t.path.size<=20000/\t.text.size<=20000) :
  Calls Tryz.prog 35 #[.pointer (some ⟨mb,0,none⟩),.agg #[.string f.path,.bool f.exec,.string f.text],.agg #[.string o.path,.bool o.exec,.string o.text],.agg #[.string t.path,.bool t.exec,.string t.text]] w (PutD Z w0 mb (bothD m f o t) (N+1)):=by
 obtain ⟨W1,eW1⟩:∃W,W=w.alloc (.cells #[.string f.path,.bool f.exec,.string f.text] 28):=⟨_,rfl⟩
 obtain ⟨W2,eW2⟩:∃W,W=W1.alloc (.cells #[.string o.path,.bool o.exec,.string o.text] 28):=⟨_,rfl⟩
 obtain ⟨W3,eW3⟩:∃W,W=W2.alloc (.cells #[.string t.path,.bool t.exec,.string t.text] 28):=⟨_,rfl⟩
 obtain ⟨W4,eW4⟩:∃W,W=W3.alloc (.cells #[.string o.path,.bool o.exec,.string ⟨#[]⟩] 28):=⟨_,rfl⟩
 have b1:Below w.heap.size w W1:=by rw[eW1];exact (Below.refl _ _).alloc (Nat.le_refl _) _
 have b2:Below W1.heap.size W1 W2:=by rw[eW2];exact (Below.refl _ _).alloc (Nat.le_refl _) _
 have b3:Below W2.heap.size W2 W3:=by rw[eW3];exact (Below.refl _ _).alloc (Nat.le_refl _) _
 have b4:Below W3.heap.size W3 W4:=by rw[eW4];exact (Below.refl _ _).alloc (Nat.le_refl _) _
 have s1:W1.heap.size=w.heap.size+1:=by rw[eW1];simp
 have s2:W2.heap.size=w.heap.size+2:=by rw[eW2];simp[s1]
 have s3:W3.heap.size=w.heap.size+3:=by rw[eW3];simp[s2]
 have xf:BoxF W4 w.heap.size f:=(((show BoxF W1 w.heap.size f by rw[eW1];exact BoxF.new _ _).below b2).below b3).below b4
 have xo:BoxF W4 (w.heap.size+1) o:=((show BoxF W2 (w.heap.size+1) o by rw[eW2,<-s1];exact BoxF.new _ _).below b3).below b4
 have xt:BoxF W4 (w.heap.size+2) t:=(show BoxF W3 (w.heap.size+2) t by rw[eW3,<-s2];exact BoxF.new _ _).below b4
 have xx:BoxF W4 (w.heap.size+3) ⟨o.path,o.exec,⟨#[]⟩⟩:=by rw[eW4,<-s3];exact BoxF.new W3 ⟨o.path,o.exec,⟨#[]⟩⟩
 have b34:=b3.trans (b4.mono b3.size)
 have b24:=b2.trans (b34.mono b2.size)
 have b14:=b1.trans (b24.mono b1.size)
 rw[eW3,eW2,eW1] at eW4
 have HM:=hid h
 have HL:=hid hL
 have HRS:=hid (show (merge3F f.text o.text t.text).1.size<=72773 by have:=aGx f.text o.text t.text;omega)
 have HPB:=hid (show w0.heap.size<=w.heap.size+1+1+1 by have:=h.bel.size;omega)
 have HPM:=hid (show mb≠w.heap.size+1+1+1 by have:=aAa h.hs;omega)
 have HPF:=hid (show ∀x o s,A=some ⟨x,o,s⟩->x≠w.heap.size+1+1+1 from fun x o s e=>by have:=h.lt x o s e;omega)
 have HPC:=hid (show cv.ownBlock≠some (w.heap.size+1+1+1) from fun e=>by have:=(h.c1.lt _ e).2;omega)
 have HPZ:=hid (show ∀j ob,Z j ob->j≠w.heap.size+1+1+1 from fun j ob hz=>by have:=aAa (h.oth j ob hz).1;omega)
 have f0:=xf.c0
 have f1:=xf.c1
 have f2:=xf.c2
 have o0:=xo.c0
 have o1:=xo.c1
 have o2:=xo.c2
 have t0:=xt.c0
 have t1:=xt.c1
 have t2:=xt.c2
 have x0:=xx.c0
 have x1:=xx.c1
 have x2:=xx.c2
 rw[eW4] at f0 f1 f2 o0 o1 o2 t0 t1 t2 x0 x1 x2
 clear b1 b2 b3 b4 s1 s2 s3 xf xo xt xx b34 b24 b14 h hL eW1 eW2 eW3 eW4
 go_enter Tryz.func35,Tryz.ntmps35
 by_cases hp:o.path=f.path
 ·by_cases hx:o.exec=f.exec
  ·have e1:(o.path.toList == f.path.toList)=true:=by rw[hp];exact beq_self_eq_true _
   have e2:(o.exec == f.exec)=true:=by rw[hx];exact beq_self_eq_true _
   have HE:=hid (show bothD m f o t=putD m ⟨t.path,t.exec,(merge3F f.text o.text t.text).1⟩ (if (merge3F f.text o.text t.text).2=false/\(0:Int)=0 then 1 else 0) by
    show putD m ⟨if o.path=f.path then t.path else o.path,if o.exec=f.exec then t.exec else o.exec,(merge3F f.text o.text t.text).1⟩ (if (merge3F f.text o.text t.text).2=false/\(if o.path=f.path then (0:Int) else if t.path≠f.path/\t.path≠o.path then 4 else 0)=0 then 1 else (if o.path=f.path then (0:Int) else if t.path≠f.path/\t.path≠o.path then 4 else 0))=_
    rw[if_pos hp,if_pos hx,if_pos hp])
   clear hp hx
   have HQ:=hid (aCf w f o t ⟨t.path,t.exec,⟨#[]⟩⟩)
   have KM:=aCe (b:=f.text) (o:=o.text) (t:=t.text) (HL.out.below HQ.out.1 HL.out.lt) (by omega) (by omega) (by omega)
   go_wp2_with fail
   refine KM.mono ?_
   rintro e w1 ⟨rfl,hb1⟩
   have HXX:=hid (HQ.out.2.below hb1)
   have HMB:=hid ((HM.out.below HQ.out.1).below hb1)
   clear KM hb1 e1 e2 f0 f1 f2 o0 o1 o2 t0 t1 t2 x0 x1 x2 HQ
   have y0:=HXX.out.c0
   have y1:=HXX.out.c1
   have y2:=HXX.out.c2
   have y3:=HXX.out.frozen 2
   generalize merge3F f.text o.text t.text=R at *
   obtain ⟨rt,rc⟩:=R
   dsimp only at HE HRS ⊢
   have HX2:=hid (HXX.out.set2 rt)
   have HM2:=hid (HMB.out.setBox (k:=2) (v:=.string rt) HPB.out HPM.out HPF.out HPC.out HPZ.out)
   have z0:=HX2.out.c0
   have z1:=HX2.out.c1
   have z2:=HX2.out.c2
   cases rc
   ·have HE2:=hid (show bothD m f o t=putD m ⟨t.path,t.exec,rt⟩ 1 by rw[HE.out];rfl)
    have KP:=aAu (f:=⟨t.path,t.exec,rt⟩) (kind:=1) HM2.out hN (show (t.path).size<=1000000/\rt.size<=1000000 from ⟨by omega,by have:=HRS.out;omega⟩)
    clear HE HM2 HMB HXX HX2
    go_wp2_with fail
    refine KP.mono ?_
    rintro e w2 ⟨rfl,A2,c2,cv2,hp2⟩
    have HP2:=hid hp2
    clear KP hp2 z0 z1 z2 y0 y1 y2 y3
    go_wp2
    refine bodyPost_end (results_none rfl _ _ _) rfl ?_
    exact ⟨rfl,_,_,_,by rw[HE2.out];exact HP2.out⟩
   have HE2:=hid (show bothD m f o t=putD m ⟨t.path,t.exec,rt⟩ 0 by rw[HE.out];rfl)
   have KP:=aAu (f:=⟨t.path,t.exec,rt⟩) (kind:=0) HM2.out hN (show (t.path).size<=1000000/\rt.size<=1000000 from ⟨by omega,by have:=HRS.out;omega⟩)
   clear HE HM2 HMB HXX HX2
   go_wp2_with fail
   refine KP.mono ?_
   rintro e w2 ⟨rfl,A2,c2,cv2,hp2⟩
   have HP2:=hid hp2
   clear KP hp2 z0 z1 z2 y0 y1 y2 y3
   go_wp2
   refine bodyPost_end (results_none rfl _ _ _) rfl ?_
   exact ⟨rfl,_,_,_,by rw[HE2.out];exact HP2.out⟩
  have e1:(o.path.toList == f.path.toList)=true:=by rw[hp];exact beq_self_eq_true _
  have e2:(o.exec == f.exec)=false:=beq_eq_false_iff_ne.2 hx
  have HE:=hid (show bothD m f o t=putD m ⟨t.path,o.exec,(merge3F f.text o.text t.text).1⟩ (if (merge3F f.text o.text t.text).2=false/\(0:Int)=0 then 1 else 0) by
   show putD m ⟨if o.path=f.path then t.path else o.path,if o.exec=f.exec then t.exec else o.exec,(merge3F f.text o.text t.text).1⟩ (if (merge3F f.text o.text t.text).2=false/\(if o.path=f.path then (0:Int) else if t.path≠f.path/\t.path≠o.path then 4 else 0)=0 then 1 else (if o.path=f.path then (0:Int) else if t.path≠f.path/\t.path≠o.path then 4 else 0))=_
   rw[if_pos hp,if_neg hx,if_pos hp])
  clear hp hx
  have HQ:=hid (aCf w f o t ⟨t.path,o.exec,⟨#[]⟩⟩)
  have KM:=aCe (b:=f.text) (o:=o.text) (t:=t.text) (HL.out.below HQ.out.1 HL.out.lt) (by omega) (by omega) (by omega)
  go_wp2_with fail
  refine KM.mono ?_
  rintro e w1 ⟨rfl,hb1⟩
  have HXX:=hid (HQ.out.2.below hb1)
  have HMB:=hid ((HM.out.below HQ.out.1).below hb1)
  clear KM hb1 e1 e2 f0 f1 f2 o0 o1 o2 t0 t1 t2 x0 x1 x2 HQ
  have y0:=HXX.out.c0
  have y1:=HXX.out.c1
  have y2:=HXX.out.c2
  have y3:=HXX.out.frozen 2
  generalize merge3F f.text o.text t.text=R at *
  obtain ⟨rt,rc⟩:=R
  dsimp only at HE HRS ⊢
  have HX2:=hid (HXX.out.set2 rt)
  have HM2:=hid (HMB.out.setBox (k:=2) (v:=.string rt) HPB.out HPM.out HPF.out HPC.out HPZ.out)
  have z0:=HX2.out.c0
  have z1:=HX2.out.c1
  have z2:=HX2.out.c2
  cases rc
  ·have HE2:=hid (show bothD m f o t=putD m ⟨t.path,o.exec,rt⟩ 1 by rw[HE.out];rfl)
   have KP:=aAu (f:=⟨t.path,o.exec,rt⟩) (kind:=1) HM2.out hN (show (t.path).size<=1000000/\rt.size<=1000000 from ⟨by omega,by have:=HRS.out;omega⟩)
   clear HE HM2 HMB HXX HX2
   go_wp2_with fail
   refine KP.mono ?_
   rintro e w2 ⟨rfl,A2,c2,cv2,hp2⟩
   have HP2:=hid hp2
   clear KP hp2 z0 z1 z2 y0 y1 y2 y3
   go_wp2
   refine bodyPost_end (results_none rfl _ _ _) rfl ?_
   exact ⟨rfl,_,_,_,by rw[HE2.out];exact HP2.out⟩
  have HE2:=hid (show bothD m f o t=putD m ⟨t.path,o.exec,rt⟩ 0 by rw[HE.out];rfl)
  have KP:=aAu (f:=⟨t.path,o.exec,rt⟩) (kind:=0) HM2.out hN (show (t.path).size<=1000000/\rt.size<=1000000 from ⟨by omega,by have:=HRS.out;omega⟩)
  clear HE HM2 HMB HXX HX2
  go_wp2_with fail
  refine KP.mono ?_
  rintro e w2 ⟨rfl,A2,c2,cv2,hp2⟩
  have HP2:=hid hp2
  clear KP hp2 z0 z1 z2 y0 y1 y2 y3
  go_wp2
  refine bodyPost_end (results_none rfl _ _ _) rfl ?_
  exact ⟨rfl,_,_,_,by rw[HE2.out];exact HP2.out⟩
 by_cases h2:t.path=f.path
 ·by_cases hx:o.exec=f.exec
  ·have e1:=aBe hp
   have e3:(t.path.toList == f.path.toList)=true:=by rw[h2];exact beq_self_eq_true _
   have e2:(o.exec == f.exec)=true:=by rw[hx];exact beq_self_eq_true _
   have HE:=hid (show bothD m f o t=putD m ⟨o.path,t.exec,(merge3F f.text o.text t.text).1⟩ (if (merge3F f.text o.text t.text).2=false/\(0:Int)=0 then 1 else 0) by
    show putD m ⟨if o.path=f.path then t.path else o.path,if o.exec=f.exec then t.exec else o.exec,(merge3F f.text o.text t.text).1⟩ (if (merge3F f.text o.text t.text).2=false/\(if o.path=f.path then (0:Int) else if t.path≠f.path/\t.path≠o.path then 4 else 0)=0 then 1 else (if o.path=f.path then (0:Int) else if t.path≠f.path/\t.path≠o.path then 4 else 0))=_
    rw[if_neg hp,if_pos hx,if_neg hp,if_neg (show ¬(t.path≠f.path/\t.path≠o.path) from fun h=>h.1 h2)])
   clear hp h2 hx
   have HQ:=hid (aCf w f o t ⟨o.path,t.exec,⟨#[]⟩⟩)
   have KM:=aCe (b:=f.text) (o:=o.text) (t:=t.text) (HL.out.below HQ.out.1 HL.out.lt) (by omega) (by omega) (by omega)
   go_wp2_with fail
   refine KM.mono ?_
   rintro e w1 ⟨rfl,hb1⟩
   have HXX:=hid (HQ.out.2.below hb1)
   have HMB:=hid ((HM.out.below HQ.out.1).below hb1)
   clear KM hb1 e1 e2 f0 f1 f2 o0 o1 o2 t0 t1 t2 x0 x1 x2 HQ
   have y0:=HXX.out.c0
   have y1:=HXX.out.c1
   have y2:=HXX.out.c2
   have y3:=HXX.out.frozen 2
   generalize merge3F f.text o.text t.text=R at *
   obtain ⟨rt,rc⟩:=R
   dsimp only at HE HRS ⊢
   have HX2:=hid (HXX.out.set2 rt)
   have HM2:=hid (HMB.out.setBox (k:=2) (v:=.string rt) HPB.out HPM.out HPF.out HPC.out HPZ.out)
   have z0:=HX2.out.c0
   have z1:=HX2.out.c1
   have z2:=HX2.out.c2
   cases rc
   ·have HE2:=hid (show bothD m f o t=putD m ⟨o.path,t.exec,rt⟩ 1 by rw[HE.out];rfl)
    have KP:=aAu (f:=⟨o.path,t.exec,rt⟩) (kind:=1) HM2.out hN (show (o.path).size<=1000000/\rt.size<=1000000 from ⟨by omega,by have:=HRS.out;omega⟩)
    clear HE HM2 HMB HXX HX2
    go_wp2_with fail
    refine KP.mono ?_
    rintro e w2 ⟨rfl,A2,c2,cv2,hp2⟩
    have HP2:=hid hp2
    clear KP hp2 z0 z1 z2 y0 y1 y2 y3
    go_wp2
    refine bodyPost_end (results_none rfl _ _ _) rfl ?_
    exact ⟨rfl,_,_,_,by rw[HE2.out];exact HP2.out⟩
   have HE2:=hid (show bothD m f o t=putD m ⟨o.path,t.exec,rt⟩ 0 by rw[HE.out];rfl)
   have KP:=aAu (f:=⟨o.path,t.exec,rt⟩) (kind:=0) HM2.out hN (show (o.path).size<=1000000/\rt.size<=1000000 from ⟨by omega,by have:=HRS.out;omega⟩)
   clear HE HM2 HMB HXX HX2
   go_wp2_with fail
   refine KP.mono ?_
   rintro e w2 ⟨rfl,A2,c2,cv2,hp2⟩
   have HP2:=hid hp2
   clear KP hp2 z0 z1 z2 y0 y1 y2 y3
   go_wp2
   refine bodyPost_end (results_none rfl _ _ _) rfl ?_
   exact ⟨rfl,_,_,_,by rw[HE2.out];exact HP2.out⟩
  have e1:=aBe hp
  have e3:(t.path.toList == f.path.toList)=true:=by rw[h2];exact beq_self_eq_true _
  have e2:(o.exec == f.exec)=false:=beq_eq_false_iff_ne.2 hx
  have HE:=hid (show bothD m f o t=putD m ⟨o.path,o.exec,(merge3F f.text o.text t.text).1⟩ (if (merge3F f.text o.text t.text).2=false/\(0:Int)=0 then 1 else 0) by
   show putD m ⟨if o.path=f.path then t.path else o.path,if o.exec=f.exec then t.exec else o.exec,(merge3F f.text o.text t.text).1⟩ (if (merge3F f.text o.text t.text).2=false/\(if o.path=f.path then (0:Int) else if t.path≠f.path/\t.path≠o.path then 4 else 0)=0 then 1 else (if o.path=f.path then (0:Int) else if t.path≠f.path/\t.path≠o.path then 4 else 0))=_
   rw[if_neg hp,if_neg hx,if_neg hp,if_neg (show ¬(t.path≠f.path/\t.path≠o.path) from fun h=>h.1 h2)])
  clear hp h2 hx
  have HQ:=hid (aCf w f o t ⟨o.path,o.exec,⟨#[]⟩⟩)
  have KM:=aCe (b:=f.text) (o:=o.text) (t:=t.text) (HL.out.below HQ.out.1 HL.out.lt) (by omega) (by omega) (by omega)
  go_wp2_with fail
  refine KM.mono ?_
  rintro e w1 ⟨rfl,hb1⟩
  have HXX:=hid (HQ.out.2.below hb1)
  have HMB:=hid ((HM.out.below HQ.out.1).below hb1)
  clear KM hb1 e1 e2 f0 f1 f2 o0 o1 o2 t0 t1 t2 x0 x1 x2 HQ
  have y0:=HXX.out.c0
  have y1:=HXX.out.c1
  have y2:=HXX.out.c2
  have y3:=HXX.out.frozen 2
  generalize merge3F f.text o.text t.text=R at *
  obtain ⟨rt,rc⟩:=R
  dsimp only at HE HRS ⊢
  have HX2:=hid (HXX.out.set2 rt)
  have HM2:=hid (HMB.out.setBox (k:=2) (v:=.string rt) HPB.out HPM.out HPF.out HPC.out HPZ.out)
  have z0:=HX2.out.c0
  have z1:=HX2.out.c1
  have z2:=HX2.out.c2
  cases rc
  ·have HE2:=hid (show bothD m f o t=putD m ⟨o.path,o.exec,rt⟩ 1 by rw[HE.out];rfl)
   have KP:=aAu (f:=⟨o.path,o.exec,rt⟩) (kind:=1) HM2.out hN (show (o.path).size<=1000000/\rt.size<=1000000 from ⟨by omega,by have:=HRS.out;omega⟩)
   clear HE HM2 HMB HXX HX2
   go_wp2_with fail
   refine KP.mono ?_
   rintro e w2 ⟨rfl,A2,c2,cv2,hp2⟩
   have HP2:=hid hp2
   clear KP hp2 z0 z1 z2 y0 y1 y2 y3
   go_wp2
   refine bodyPost_end (results_none rfl _ _ _) rfl ?_
   exact ⟨rfl,_,_,_,by rw[HE2.out];exact HP2.out⟩
  have HE2:=hid (show bothD m f o t=putD m ⟨o.path,o.exec,rt⟩ 0 by rw[HE.out];rfl)
  have KP:=aAu (f:=⟨o.path,o.exec,rt⟩) (kind:=0) HM2.out hN (show (o.path).size<=1000000/\rt.size<=1000000 from ⟨by omega,by have:=HRS.out;omega⟩)
  clear HE HM2 HMB HXX HX2
  go_wp2_with fail
  refine KP.mono ?_
  rintro e w2 ⟨rfl,A2,c2,cv2,hp2⟩
  have HP2:=hid hp2
  clear KP hp2 z0 z1 z2 y0 y1 y2 y3
  go_wp2
  refine bodyPost_end (results_none rfl _ _ _) rfl ?_
  exact ⟨rfl,_,_,_,by rw[HE2.out];exact HP2.out⟩
 by_cases h3:t.path=o.path
 ·by_cases hx:o.exec=f.exec
  ·have e1:=aBe hp
   have e3:=aBe h2
   have e4:(t.path.toList == o.path.toList)=true:=by rw[h3];exact beq_self_eq_true _
   have e2:(o.exec == f.exec)=true:=by rw[hx];exact beq_self_eq_true _
   have HE:=hid (show bothD m f o t=putD m ⟨o.path,t.exec,(merge3F f.text o.text t.text).1⟩ (if (merge3F f.text o.text t.text).2=false/\(0:Int)=0 then 1 else 0) by
    show putD m ⟨if o.path=f.path then t.path else o.path,if o.exec=f.exec then t.exec else o.exec,(merge3F f.text o.text t.text).1⟩ (if (merge3F f.text o.text t.text).2=false/\(if o.path=f.path then (0:Int) else if t.path≠f.path/\t.path≠o.path then 4 else 0)=0 then 1 else (if o.path=f.path then (0:Int) else if t.path≠f.path/\t.path≠o.path then 4 else 0))=_
    rw[if_neg hp,if_pos hx,if_neg hp,if_neg (show ¬(t.path≠f.path/\t.path≠o.path) from fun h=>h.2 h3)])
   clear hp h2 h3 hx
   have HQ:=hid (aCf w f o t ⟨o.path,t.exec,⟨#[]⟩⟩)
   have KM:=aCe (b:=f.text) (o:=o.text) (t:=t.text) (HL.out.below HQ.out.1 HL.out.lt) (by omega) (by omega) (by omega)
   go_wp2_with fail
   refine KM.mono ?_
   rintro e w1 ⟨rfl,hb1⟩
   have HXX:=hid (HQ.out.2.below hb1)
   have HMB:=hid ((HM.out.below HQ.out.1).below hb1)
   clear KM hb1 e1 e2 f0 f1 f2 o0 o1 o2 t0 t1 t2 x0 x1 x2 HQ
   have y0:=HXX.out.c0
   have y1:=HXX.out.c1
   have y2:=HXX.out.c2
   have y3:=HXX.out.frozen 2
   generalize merge3F f.text o.text t.text=R at *
   obtain ⟨rt,rc⟩:=R
   dsimp only at HE HRS ⊢
   have HX2:=hid (HXX.out.set2 rt)
   have HM2:=hid (HMB.out.setBox (k:=2) (v:=.string rt) HPB.out HPM.out HPF.out HPC.out HPZ.out)
   have z0:=HX2.out.c0
   have z1:=HX2.out.c1
   have z2:=HX2.out.c2
   cases rc
   ·have HE2:=hid (show bothD m f o t=putD m ⟨o.path,t.exec,rt⟩ 1 by rw[HE.out];rfl)
    have KP:=aAu (f:=⟨o.path,t.exec,rt⟩) (kind:=1) HM2.out hN (show (o.path).size<=1000000/\rt.size<=1000000 from ⟨by omega,by have:=HRS.out;omega⟩)
    clear HE HM2 HMB HXX HX2
    go_wp2_with fail
    refine KP.mono ?_
    rintro e w2 ⟨rfl,A2,c2,cv2,hp2⟩
    have HP2:=hid hp2
    clear KP hp2 z0 z1 z2 y0 y1 y2 y3
    go_wp2
    refine bodyPost_end (results_none rfl _ _ _) rfl ?_
    exact ⟨rfl,_,_,_,by rw[HE2.out];exact HP2.out⟩
   have HE2:=hid (show bothD m f o t=putD m ⟨o.path,t.exec,rt⟩ 0 by rw[HE.out];rfl)
   have KP:=aAu (f:=⟨o.path,t.exec,rt⟩) (kind:=0) HM2.out hN (show (o.path).size<=1000000/\rt.size<=1000000 from ⟨by omega,by have:=HRS.out;omega⟩)
   clear HE HM2 HMB HXX HX2
   go_wp2_with fail
   refine KP.mono ?_
   rintro e w2 ⟨rfl,A2,c2,cv2,hp2⟩
   have HP2:=hid hp2
   clear KP hp2 z0 z1 z2 y0 y1 y2 y3
   go_wp2
   refine bodyPost_end (results_none rfl _ _ _) rfl ?_
   exact ⟨rfl,_,_,_,by rw[HE2.out];exact HP2.out⟩
  have e1:=aBe hp
  have e3:=aBe h2
  have e4:(t.path.toList == o.path.toList)=true:=by rw[h3];exact beq_self_eq_true _
  have e2:(o.exec == f.exec)=false:=beq_eq_false_iff_ne.2 hx
  have HE:=hid (show bothD m f o t=putD m ⟨o.path,o.exec,(merge3F f.text o.text t.text).1⟩ (if (merge3F f.text o.text t.text).2=false/\(0:Int)=0 then 1 else 0) by
   show putD m ⟨if o.path=f.path then t.path else o.path,if o.exec=f.exec then t.exec else o.exec,(merge3F f.text o.text t.text).1⟩ (if (merge3F f.text o.text t.text).2=false/\(if o.path=f.path then (0:Int) else if t.path≠f.path/\t.path≠o.path then 4 else 0)=0 then 1 else (if o.path=f.path then (0:Int) else if t.path≠f.path/\t.path≠o.path then 4 else 0))=_
   rw[if_neg hp,if_neg hx,if_neg hp,if_neg (show ¬(t.path≠f.path/\t.path≠o.path) from fun h=>h.2 h3)])
  clear hp h2 h3 hx
  have HQ:=hid (aCf w f o t ⟨o.path,o.exec,⟨#[]⟩⟩)
  have KM:=aCe (b:=f.text) (o:=o.text) (t:=t.text) (HL.out.below HQ.out.1 HL.out.lt) (by omega) (by omega) (by omega)
  go_wp2_with fail
  refine KM.mono ?_
  rintro e w1 ⟨rfl,hb1⟩
  have HXX:=hid (HQ.out.2.below hb1)
  have HMB:=hid ((HM.out.below HQ.out.1).below hb1)
  clear KM hb1 e1 e2 f0 f1 f2 o0 o1 o2 t0 t1 t2 x0 x1 x2 HQ
  have y0:=HXX.out.c0
  have y1:=HXX.out.c1
  have y2:=HXX.out.c2
  have y3:=HXX.out.frozen 2
  generalize merge3F f.text o.text t.text=R at *
  obtain ⟨rt,rc⟩:=R
  dsimp only at HE HRS ⊢
  have HX2:=hid (HXX.out.set2 rt)
  have HM2:=hid (HMB.out.setBox (k:=2) (v:=.string rt) HPB.out HPM.out HPF.out HPC.out HPZ.out)
  have z0:=HX2.out.c0
  have z1:=HX2.out.c1
  have z2:=HX2.out.c2
  cases rc
  ·have HE2:=hid (show bothD m f o t=putD m ⟨o.path,o.exec,rt⟩ 1 by rw[HE.out];rfl)
   have KP:=aAu (f:=⟨o.path,o.exec,rt⟩) (kind:=1) HM2.out hN (show (o.path).size<=1000000/\rt.size<=1000000 from ⟨by omega,by have:=HRS.out;omega⟩)
   clear HE HM2 HMB HXX HX2
   go_wp2_with fail
   refine KP.mono ?_
   rintro e w2 ⟨rfl,A2,c2,cv2,hp2⟩
   have HP2:=hid hp2
   clear KP hp2 z0 z1 z2 y0 y1 y2 y3
   go_wp2
   refine bodyPost_end (results_none rfl _ _ _) rfl ?_
   exact ⟨rfl,_,_,_,by rw[HE2.out];exact HP2.out⟩
  have HE2:=hid (show bothD m f o t=putD m ⟨o.path,o.exec,rt⟩ 0 by rw[HE.out];rfl)
  have KP:=aAu (f:=⟨o.path,o.exec,rt⟩) (kind:=0) HM2.out hN (show (o.path).size<=1000000/\rt.size<=1000000 from ⟨by omega,by have:=HRS.out;omega⟩)
  clear HE HM2 HMB HXX HX2
  go_wp2_with fail
  refine KP.mono ?_
  rintro e w2 ⟨rfl,A2,c2,cv2,hp2⟩
  have HP2:=hid hp2
  clear KP hp2 z0 z1 z2 y0 y1 y2 y3
  go_wp2
  refine bodyPost_end (results_none rfl _ _ _) rfl ?_
  exact ⟨rfl,_,_,_,by rw[HE2.out];exact HP2.out⟩
 by_cases hx:o.exec=f.exec
 ·have e1:=aBe hp
  have e3:=aBe h2
  have e4:=aBe h3
  have e2:(o.exec == f.exec)=true:=by rw[hx];exact beq_self_eq_true _
  have HE:=hid (show bothD m f o t=putD m ⟨o.path,t.exec,(merge3F f.text o.text t.text).1⟩ (if (merge3F f.text o.text t.text).2=false/\(4:Int)=0 then 1 else 4) by
   show putD m ⟨if o.path=f.path then t.path else o.path,if o.exec=f.exec then t.exec else o.exec,(merge3F f.text o.text t.text).1⟩ (if (merge3F f.text o.text t.text).2=false/\(if o.path=f.path then (0:Int) else if t.path≠f.path/\t.path≠o.path then 4 else 0)=0 then 1 else (if o.path=f.path then (0:Int) else if t.path≠f.path/\t.path≠o.path then 4 else 0))=_
   rw[if_neg hp,if_pos hx,if_neg hp,if_pos (show t.path≠f.path/\t.path≠o.path from ⟨h2,h3⟩)])
  clear hp h2 h3 hx
  have HQ:=hid (aCf w f o t ⟨o.path,t.exec,⟨#[]⟩⟩)
  have KM:=aCe (b:=f.text) (o:=o.text) (t:=t.text) (HL.out.below HQ.out.1 HL.out.lt) (by omega) (by omega) (by omega)
  go_wp2_with fail
  refine KM.mono ?_
  rintro e w1 ⟨rfl,hb1⟩
  have HXX:=hid (HQ.out.2.below hb1)
  have HMB:=hid ((HM.out.below HQ.out.1).below hb1)
  clear KM hb1 e1 e2 f0 f1 f2 o0 o1 o2 t0 t1 t2 x0 x1 x2 HQ
  have y0:=HXX.out.c0
  have y1:=HXX.out.c1
  have y2:=HXX.out.c2
  have y3:=HXX.out.frozen 2
  generalize merge3F f.text o.text t.text=R at *
  obtain ⟨rt,rc⟩:=R
  dsimp only at HE HRS ⊢
  have HX2:=hid (HXX.out.set2 rt)
  have HM2:=hid (HMB.out.setBox (k:=2) (v:=.string rt) HPB.out HPM.out HPF.out HPC.out HPZ.out)
  have z0:=HX2.out.c0
  have z1:=HX2.out.c1
  have z2:=HX2.out.c2
  cases rc
  ·have HE2:=hid (show bothD m f o t=putD m ⟨o.path,t.exec,rt⟩ 4 by rw[HE.out];rfl)
   have KP:=aAu (f:=⟨o.path,t.exec,rt⟩) (kind:=4) HM2.out hN (show (o.path).size<=1000000/\rt.size<=1000000 from ⟨by omega,by have:=HRS.out;omega⟩)
   clear HE HM2 HMB HXX HX2
   go_wp2_with fail
   refine KP.mono ?_
   rintro e w2 ⟨rfl,A2,c2,cv2,hp2⟩
   have HP2:=hid hp2
   clear KP hp2 z0 z1 z2 y0 y1 y2 y3
   go_wp2
   refine bodyPost_end (results_none rfl _ _ _) rfl ?_
   exact ⟨rfl,_,_,_,by rw[HE2.out];exact HP2.out⟩
  have HE2:=hid (show bothD m f o t=putD m ⟨o.path,t.exec,rt⟩ 4 by rw[HE.out];rfl)
  have KP:=aAu (f:=⟨o.path,t.exec,rt⟩) (kind:=4) HM2.out hN (show (o.path).size<=1000000/\rt.size<=1000000 from ⟨by omega,by have:=HRS.out;omega⟩)
  clear HE HM2 HMB HXX HX2
  go_wp2_with fail
  refine KP.mono ?_
  rintro e w2 ⟨rfl,A2,c2,cv2,hp2⟩
  have HP2:=hid hp2
  clear KP hp2 z0 z1 z2 y0 y1 y2 y3
  go_wp2
  refine bodyPost_end (results_none rfl _ _ _) rfl ?_
  exact ⟨rfl,_,_,_,by rw[HE2.out];exact HP2.out⟩
 have e1:=aBe hp
 have e3:=aBe h2
 have e4:=aBe h3
 have e2:(o.exec == f.exec)=false:=beq_eq_false_iff_ne.2 hx
 have HE:=hid (show bothD m f o t=putD m ⟨o.path,o.exec,(merge3F f.text o.text t.text).1⟩ (if (merge3F f.text o.text t.text).2=false/\(4:Int)=0 then 1 else 4) by
  show putD m ⟨if o.path=f.path then t.path else o.path,if o.exec=f.exec then t.exec else o.exec,(merge3F f.text o.text t.text).1⟩ (if (merge3F f.text o.text t.text).2=false/\(if o.path=f.path then (0:Int) else if t.path≠f.path/\t.path≠o.path then 4 else 0)=0 then 1 else (if o.path=f.path then (0:Int) else if t.path≠f.path/\t.path≠o.path then 4 else 0))=_
  rw[if_neg hp,if_neg hx,if_neg hp,if_pos (show t.path≠f.path/\t.path≠o.path from ⟨h2,h3⟩)])
 clear hp h2 h3 hx
 have HQ:=hid (aCf w f o t ⟨o.path,o.exec,⟨#[]⟩⟩)
 have KM:=aCe (b:=f.text) (o:=o.text) (t:=t.text) (HL.out.below HQ.out.1 HL.out.lt) (by omega) (by omega) (by omega)
 go_wp2_with fail
 refine KM.mono ?_
 rintro e w1 ⟨rfl,hb1⟩
 have HXX:=hid (HQ.out.2.below hb1)
 have HMB:=hid ((HM.out.below HQ.out.1).below hb1)
 clear KM hb1 e1 e2 f0 f1 f2 o0 o1 o2 t0 t1 t2 x0 x1 x2 HQ
 have y0:=HXX.out.c0
 have y1:=HXX.out.c1
 have y2:=HXX.out.c2
 have y3:=HXX.out.frozen 2
 generalize merge3F f.text o.text t.text=R at *
 obtain ⟨rt,rc⟩:=R
 dsimp only at HE HRS ⊢
 have HX2:=hid (HXX.out.set2 rt)
 have HM2:=hid (HMB.out.setBox (k:=2) (v:=.string rt) HPB.out HPM.out HPF.out HPC.out HPZ.out)
 have z0:=HX2.out.c0
 have z1:=HX2.out.c1
 have z2:=HX2.out.c2
 cases rc
 ·have HE2:=hid (show bothD m f o t=putD m ⟨o.path,o.exec,rt⟩ 4 by rw[HE.out];rfl)
  have KP:=aAu (f:=⟨o.path,o.exec,rt⟩) (kind:=4) HM2.out hN (show (o.path).size<=1000000/\rt.size<=1000000 from ⟨by omega,by have:=HRS.out;omega⟩)
  clear HE HM2 HMB HXX HX2
  go_wp2_with fail
  refine KP.mono ?_
  rintro e w2 ⟨rfl,A2,c2,cv2,hp2⟩
  have HP2:=hid hp2
  clear KP hp2 z0 z1 z2 y0 y1 y2 y3
  go_wp2
  refine bodyPost_end (results_none rfl _ _ _) rfl ?_
  exact ⟨rfl,_,_,_,by rw[HE2.out];exact HP2.out⟩
 have HE2:=hid (show bothD m f o t=putD m ⟨o.path,o.exec,rt⟩ 4 by rw[HE.out];rfl)
 have KP:=aAu (f:=⟨o.path,o.exec,rt⟩) (kind:=4) HM2.out hN (show (o.path).size<=1000000/\rt.size<=1000000 from ⟨by omega,by have:=HRS.out;omega⟩)
 clear HE HM2 HMB HXX HX2
 go_wp2_with fail
 refine KP.mono ?_
 rintro e w2 ⟨rfl,A2,c2,cv2,hp2⟩
 have HP2:=hid hp2
 clear KP hp2 z0 z1 z2 y0 y1 y2 y3
 go_wp2
 refine bodyPost_end (results_none rfl _ _ _) rfl ?_
 exact ⟨rfl,_,_,_,by rw[HE2.out];exact HP2.out⟩
end Go.Proofs.YtcemkikgaeghjaaGreatDoor
