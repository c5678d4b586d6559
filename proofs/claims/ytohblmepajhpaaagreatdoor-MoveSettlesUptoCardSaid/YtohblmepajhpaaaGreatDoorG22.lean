/- Texts of the walks, together: Walk: (*treemerge.merge).kept. Walks: slices.IndexFunc and slices.DeleteFunc of files, at added's closure. Walks: (*treemerge.side).added and its closure. Walk: (*treemerge.merge).added. Walk: slices.SortFunc of files. -/
import Derived.Test.YtohblmepajhpaaaGreatDoorG06
import Derived.Test.YtohblmepajhpaaaGreatDoorG21
set_option maxHeartbeats 16000000
set_option maxRecDepth 100000
open Go.Lib (hid)
namespace Go.Proofs.YtohblmepajhpaaaGreatDoor
open Go.RowKit
def Finds (w0:World)(s:Nat)(F:FV->Option FV):Prop:=∀(f:FV) (u:World),Below w0.heap.size w0 u->f.path.size<=20000->
 Calls Tryz.prog 151 #[.pointer (some ⟨s,0,none⟩),.agg #[.string f.path,.bool f.exec,.string f.text]] u (FoundIs (F f) u)
def keptG (F G:FV->Option FV)(m:List FV×List CL)(f:FV):List FV×List CL:=
 match F f,G f with
 | some x,some y=>bothM m f x y
 | some x,none=>oneM m f x
 | none,some y=>oneM m f y
 | none,none=>m
theorem bHf (base a b:List FV):keptG (whereF base a) (whereF base b)=keptM base a b:=by
 funext m f
 unfold keptG keptM oneM
 cases whereF base a f<;>cases whereF base b f<;>rfl
def SmallF (F:FV->Option FV):Prop:=∀f g,F f=some g->g.path.size<=20000/\g.text.size<=20000
theorem bEi {Z:Nat->Obj->Prop}{w0 w:World}{mb N n c s1 s2:Nat}{A:Option Addr}{fv cv:Value}{m:List FV×List CL}{base:List FV}{F G:FV->Option FV}(hL:Lm w0)(h:MI Z w0 w mb fv cv m N)(hn:N+n<=100000)(hr:RdF w0 w0.heap.size A n c base)
  (hb:∀f∈base,f.path.size<=20000/\f.text.size<=20000) (hF:Finds w0 s1 F) (hG:Finds w0 s2 G) (sF:SmallF F) (sG:SmallF G) :
  Calls Tryz.prog 130 #[.pointer (some ⟨mb,0,none⟩),.slice A n c,.pointer (some ⟨s1,0,none⟩),.pointer (some ⟨s2,0,none⟩)] w (PutIs Z w0 mb (base.foldl (keptG F G) m) (N+n)):=by
 have HR:=hid hr
 have HBS:=hid hb
 have HF:=hid hF
 have HG:=hid hG
 have HSF:=hid sF
 have HSG:=hid sG
 have HL:=hid hL
 have HM0:=hid h
 have HLEN:=hid hr.len
 clear hr hb hF hG sF sG hL h
 go_enter Tryz.func130,Tryz.ntmps130
 go_wp2
 go_loopw[16] (fun i wr=>∃k:Nat,k<=n/\i=.int .i64 k/\∃fv' cv',Hid (MI Z w0 wr mb fv' cv' ((base.take k).foldl (keptG F G) m) (N+k))) (fun i _=>n-(intOf i).toNat)
 case atStart=>exact ⟨0,Nat.zero_le _,rfl,fv,cv,HM0⟩
 clear HM0
 obtain ⟨k,hk,rfl,fv',cv',HM⟩:=hrel
 by_cases hlt:k<n
 ·obtain ⟨b0,o0,f,rfl,hbb,hx,hm,h0,h1,h2⟩:=HR.out.get hlt
  replace h0:=(HM.out.bel.cell (p:=⟨b0,o0+k*3,none⟩) hbb).trans h0
  replace h1:=(HM.out.bel.cell (p:=⟨b0,o0+k*3+1,none⟩) hbb).trans h1
  replace h2:=(HM.out.bel.cell (p:=⟨b0,o0+k*3+2,none⟩) hbb).trans h2
  have HT:=hid (show (base.take (k+1)).foldl (keptG F G) m=keptG F G ((base.take k).foldl (keptG F G) m) f by rw[List.take_add_one,hx,List.foldl_append];rfl)
  have hfs:=HBS.out f hm
  clear hx hm hbb
  generalize (base.take k).foldl (keptG F G) m=mk at *
  have hba:Below wr.heap.size wr (wr.alloc (.cells #[.string f.path,.bool f.exec,.string f.text] 48)):=(Below.refl _ _).alloc (Nat.le_refl _) _
  have HM1:=hid (HM.out.below hba)
  have HX1:=hid (BoxF.new wr f)
  have KF:=HF.out f _ HM1.out.bel hfs.1
  have HGX:=hid (show keptG F G mk f=match F f,G f with | some x,some y=>bothM mk f x y | some x,none=>oneM mk f x | none,some y=>oneM mk f y | none,none=>mk from rfl)
  have HS1:=hid (HSF.out f)
  have HS2:=hid (HSG.out f)
  clear hba
  go_wp2_with fail
  refine KF.mono ?_
  rintro e w1 ⟨rfl,hb1⟩
  generalize hgx:optF (F f)=gx
  generalize hbx:(F f).isSome=bx
  have HGX1:=hid hgx
  have HBX1:=hid hbx
  have hbb1:Below w1.heap.size w1 (w1.alloc (.cells #[.string gx.path,.bool gx.exec,.string gx.text] 48)):=(Below.refl _ _).alloc (Nat.le_refl _) _
  have HM2:=hid ((HM1.out.below hb1).below hbb1)
  have HX2:=hid ((HX1.out.below hb1).below hbb1)
  have HY2:=hid (BoxF.new w1 gx)
  have x0:=HX2.out.c0
  have x1:=HX2.out.c1
  have x2:=HX2.out.c2
  have KG:=HG.out f _ HM2.out.bel hfs.1
  clear KF hb1 hbb1 hgx hbx HM1 HX1 HM
  generalize wr.heap.size=q9 at *
  go_wp2_with fail
  refine KG.mono ?_
  rintro e w2 ⟨rfl,hb2⟩
  generalize hgy:optF (G f)=gy
  generalize hby:(G f).isSome=bY
  have HGY1:=hid hgy
  have HBY1:=hid hby
  have hbb2:Below w2.heap.size w2 (w2.alloc (.cells #[.string gy.path,.bool gy.exec,.string gy.text] 48)):=(Below.refl _ _).alloc (Nat.le_refl _) _
  have HM3:=hid ((HM2.out.below hb2).below hbb2)
  have HX3:=hid ((HX2.out.below hb2).below hbb2)
  have HY3:=hid ((HY2.out.below hb2).below hbb2)
  have HZ3:=hid (BoxF.new w2 gy)
  clear KG hb2 hbb2 hgy hby HM2 HX2 HY2 x0 x1 x2 h0 h1 h2
  generalize w1.heap.size=q10 at *
  have x0:=HX3.out.c0
  have x1:=HX3.out.c1
  have x2:=HX3.out.c2
  have y0:=HY3.out.c0
  have y1:=HY3.out.c1
  have y2:=HY3.out.c2
  have z0:=HZ3.out.c0
  have z1:=HZ3.out.c1
  have z2:=HZ3.out.c2
  cases hFf:F f with
  | some x=>
   rw[hFf] at HGX1 HBX1
   have ex:gx=x:=HGX1.out.symm
   have eb:bx=true:=HBX1.out.symm
   subst ex eb
   have hs1:=HS1.out _ hFf
   cases hGf:G f with
   | some y=>
    rw[hGf] at HGY1 HBY1
    have ey:gy=y:=HGY1.out.symm
    have eb:bY=true:=HBY1.out.symm
    subst ey eb
    have hs2:=HS2.out _ hGf
    have HE:Hid (keptG F G mk f=bothM mk f gx gy):=hid (by rw[HGX.out,hFf,hGf])
    have KB:=bBb (hL:=HL.out.to HM3.out.bel) HM3.out (by omega) hfs hs1 hs2
    clear hFf hGf HGX1 HBX1 HGY1 HBY1
    go_wp2_with fail
    refine KB.mono ?_
    rintro e w3 ⟨rfl,fv3,cv3,hp3⟩
    have HN:=hid hp3
    clear KB hp3 HM3 HX3 HY3 HZ3 x0 x1 x2 y0 y1 y2 z0 z1 z2 hfs
    go_wp2
    go_roundw
    case rel=>exact ⟨k+1,by omega,by go_num,fv3,cv3,by rw[HT.out,HE.out];exact HN⟩
    simp[intOf];omega
   | none=>
    rw[hGf] at HBY1
    have eb:bY=false:=HBY1.out.symm
    subst eb
    have HE:Hid (keptG F G mk f=oneM mk f gx):=hid (by rw[HGX.out,hFf,hGf])
    have KB:=aXw (f:=f) (x:=gx) HM3.out (by omega) (show gx.path.size<=1000000/\gx.text.size<=1000000 from ⟨by omega,by omega⟩)
    clear hFf hGf HGX1 HBX1 HGY1 HBY1
    go_wp2_with fail
    refine KB.mono ?_
    rintro e w3 ⟨rfl,fv3,cv3,hp3⟩
    have HN:=hid hp3
    clear KB hp3 HM3 HX3 HY3 HZ3 x0 x1 x2 y0 y1 y2 z0 z1 z2 hfs
    go_wp2
    go_roundw
    case rel=>exact ⟨k+1,by omega,by go_num,fv3,cv3,by rw[HT.out,HE.out];exact HN⟩
    simp[intOf];omega
  | none=>
   rw[hFf] at HBX1
   have eb:bx=false:=HBX1.out.symm
   subst eb
   cases hGf:G f with
   | some y=>
    rw[hGf] at HGY1 HBY1
    have ey:gy=y:=HGY1.out.symm
    have eb:bY=true:=HBY1.out.symm
    subst ey eb
    have hs2:=HS2.out _ hGf
    have HE:Hid (keptG F G mk f=oneM mk f gy):=hid (by rw[HGX.out,hFf,hGf])
    have KB:=aXw (f:=f) (x:=gy) HM3.out (by omega) (show gy.path.size<=1000000/\gy.text.size<=1000000 from ⟨by omega,by omega⟩)
    clear hFf hGf HGX1 HBX1 HGY1 HBY1
    go_wp2_with fail
    refine KB.mono ?_
    rintro e w3 ⟨rfl,fv3,cv3,hp3⟩
    have HN:=hid hp3
    clear KB hp3 HM3 HX3 HY3 HZ3 x0 x1 x2 y0 y1 y2 z0 z1 z2 hfs
    go_wp2
    go_roundw
    case rel=>exact ⟨k+1,by omega,by go_num,fv3,cv3,by rw[HT.out,HE.out];exact HN⟩
    simp[intOf];omega
   | none=>
    rw[hGf] at HBY1
    have eb:bY=false:=HBY1.out.symm
    subst eb
    have HE:Hid (keptG F G mk f=mk):=hid (by rw[HGX.out,hFf,hGf])
    clear hFf hGf HGX1 HBX1 HGY1 HBY1
    have HN:=hid (HM3.out.more (show N+k<=N+(k+1) by omega))
    clear HM3 HX3 HY3 HZ3 hfs
    go_wp2
    go_roundw
    case rel=>exact ⟨k+1,by omega,by go_num,fv',cv',by rw[HT.out,HE.out];exact HN⟩
    simp[intOf];omega
 have hkn:k=n:=by omega
 subst hkn
 go_wp2
 refine bodyPost_end (results_none rfl _ _ _) rfl ?_
 exact ⟨rfl,fv',cv',by have:=HM.out;rwa [List.take_of_length_le (by rw[HLEN.out];exact Nat.le_refl _)] at this⟩
def FirstG (p:FV->Bool)(xs:List FV)(w:World)(e:Ending) (w':World):Prop:=
 ∃k:Int,e=.returned (.int .i64 k)/\((k=-1/\∀x∈xs,p x=false)\/∃(j:Nat) (x:FV),k=(j:Int)/\xs[j]? = some x/\p x=true/\∀(i:Nat) (y:FV),i<j->xs[i]? = some y->p y=false)/\Below w.heap.size w w'
theorem FV.len_flat (l:List FV):(l.flatMap FV.cells).length=l.length*3:=by
 induction l with
 | nil=>rfl
 | cons x l ih=>rw[List.flatMap_cons,List.length_append,ih,List.length_cons,FV.cells_len];omega
theorem aRx {u u':World}(h:Below u.heap.size u u'):u.grownBy u' none:=aAo h
theorem aJt {A:Option Addr}{n c:Nat}{xs:List FV}{w:World}{q1 q2:Value}(p:FV->Bool)(hn:n<=1000000)(h:RdF w w.heap.size A n c xs)
  (hC:∀(x:FV) (u:World),x∈xs->Below w.heap.size w u->Calls Tryz.prog 158 #[.agg #[.string x.path,.bool x.exec,.string x.text],q1,q2] u fun e w'=>e=.returned (.bool (p x))/\Below u.heap.size u w') :
  Calls Tryz.prog 188 #[.slice A n c,.func (.func 158) #[] #[q1,q2]] w (FirstG p xs w):=by
 have HL:=hid h.len
 go_enter Tryz.func188,Tryz.ntmps188
 go_wp2
 go_loopw[8] (fun i wr=>∃k:Nat,k<=n/\i=.int .i64 k/\Hid (Below w.heap.size w wr)/\Hid (∀(i:Nat) (y:FV),i<k->xs[i]? = some y->p y=false)) (fun i _=>n-(intOf i).toNat)
 case atStart=>exact ⟨0,Nat.zero_le _,rfl,hid (Below.refl _ _),fun i y h=>absurd h (Nat.not_lt_zero _)⟩
 obtain ⟨k,hk,rfl,HB,HJ⟩:=hrel
 by_cases hlt:k<n
 ·obtain ⟨b0,o0,x,rfl,hbb,hx,hxm,h0,h1,h2⟩:=h.get hlt
  replace h0:=(HB.out.cell (p:=⟨b0,o0+k*3,none⟩) hbb).trans h0
  replace h1:=(HB.out.cell (p:=⟨b0,o0+k*3+1,none⟩) hbb).trans h1
  replace h2:=(HB.out.cell (p:=⟨b0,o0+k*3+2,none⟩) hbb).trans h2
  have HX:=hid hx;clear hx
  have K:=hC x wr hxm HB.out
  clear hxm
  obtain ⟨R,hR⟩:∃R,R=p x:=⟨_,rfl⟩
  rw[<-hR] at K
  have HR:=hid hR
  clear hR
  obtain ⟨xp,xe,xt⟩:=x
  dsimp only at h0 h1 h2 K
  go_wp2_with fail
  refine K.mono ?_
  rintro e w1 ⟨rfl,hb1⟩
  have HB1:=hid (HB.out.trans (hb1.mono HB.out.size))
  clear K hb1
  cases R
  ·have HN:Hid (∀(i:Nat) (y:FV),i<k+1->xs[i]? = some y->p y=false):=fun i y hi hy=>by
    rcases Nat.lt_or_ge i k with h | h
    ·exact HJ.out i y h hy
    rw[show i=k by omega,HX.out] at hy;injection hy with hy;rw[<-hy];exact HR.out.symm
   go_wp2
   go_roundw
   case rel=>exact ⟨k+1,by omega,by go_num,HB1,HN⟩
   simp[intOf];omega
  go_wp2
  go_ret
  exact ⟨k,rfl,.inr ⟨k,_,rfl,HX.out,HR.out.symm,HJ.out⟩,HB1.out⟩
 have hkn:k=n:=by omega
 subst hkn
 go_wp2
 go_ret
 refine ⟨-1,rfl,.inl ⟨rfl,fun x hx=>?_⟩,HB.out⟩
 obtain ⟨i,hi,rfl⟩:=List.getElem_of_mem hx
 exact HJ.out i _ (by have:=HL.out;omega) (List.getElem?_eq_getElem hi)
def keepP (p:FV->Bool)(l:List FV):List FV:=l.filter fun x=>!p x
theorem aOe (p:FV->Bool){l:List FV}{k:Nat}{x:FV}(hx:l[k]? = some x):keepP p (l.take (k+1))=keepP p (l.take k)++if p x=false then [x] else []:=by
 rw[List.take_add_one,hx,keepP,List.filter_append]
 by_cases e:p x=false
 ·simp[e,keepP]
 simp[e,keepP]
theorem aRe {p:FV->Bool}{l:List FV}(h:∀f∈l,p f=false):keepP p l=l:=List.filter_eq_self.2 fun x hx=>by
 have:=h x hx
 simpa using this
theorem bFs {cur:List Value}{a:List FV}{x:FV}{l:List FV}{i n cap:Nat}(hi:a.length=i)(hin:i<n)(hl:l.length=n)(hc:cur.length=cap*3)(hnc:n<=cap)
  (ht:cur.take (n*3)=(a++l.drop i).flatMap FV.cells):(cur.take (i*3)++x.cells++cur.drop (i*3+3)).take (n*3)=((a++[x])++l.drop (i+1)).flatMap FV.cells:=by
 have h1:cur.take (i*3)=a.flatMap FV.cells:=by
  have:(cur.take (n*3)).take (i*3)=cur.take (i*3):=by rw[List.take_take,Nat.min_eq_left (by omega)]
  rw[<-this,ht,List.flatMap_append,List.take_append_of_le_length (by rw[FV.len_flat,hi];exact Nat.le_refl _),List.take_of_length_le (by rw[FV.len_flat,hi];exact Nat.le_refl _)]
 have h2:(cur.take (n*3)).drop (i*3+3)=(l.drop (i+1)).flatMap FV.cells:=by
  obtain ⟨y,hy⟩:∃y,l[i]? = some y:=⟨l[i],List.getElem?_eq_getElem (by omega)⟩
  obtain ⟨hy1,hy2⟩:=List.getElem?_eq_some_iff.1 hy
  rw[ht,List.drop_eq_getElem_cons hy1,List.flatMap_append,List.flatMap_cons,<-List.append_assoc]
  rw[List.drop_append_of_le_length (by rw[List.length_append,FV.len_flat,hi,FV.cells_len];exact Nat.le_refl _),List.drop_of_length_le (by rw[List.length_append,FV.len_flat,hi,FV.cells_len];exact Nat.le_refl _),List.nil_append]
 have h3:(cur.take (i*3)++x.cells).length=i*3+3:=by rw[List.length_append,List.length_take,FV.cells_len];omega
 rw[List.take_append,List.take_of_length_le (by omega),h3,<-List.drop_take,h2,h1]
 simp[List.flatMap_append]
theorem aOy {r n cap:Nat}{q1 q2:Value}(p:FV->Bool){cur:Array Value}{l:List FV}{w:World}(hn:n<=1000000)(hg:w.heap[r]? = some (.cells cur 48 (0,0)))(hnc:n<=cap)(_hcm:cap<=maxLen)(hcs:cur.size=cap*3)
  (htake:cur.toList.take (n*3)=l.flatMap FV.cells) (hl:l.length=n) (hf:∀f∈l,f.path.size<=140737488351232/\f.text.size<=140737488351232)
  (hC:∀(x:FV) (u:World),x∈l->w.grownBy u (some r)->Calls Tryz.prog 158 #[.agg #[.string x.path,.bool x.exec,.string x.text],q1,q2] u fun e w'=>e=.returned (.bool (p x))/\Below u.heap.size u w') :
  Calls Tryz.prog 157 #[.slice (some ⟨r,0,none⟩) n cap,.func (.func 158) #[] #[q1,q2]] w
   fun e w'=>∃m,e=.returned (.slice (some ⟨r,0,none⟩) m cap)/\(keepP p l).length=m/\RdF w' w'.heap.size (some ⟨r,0,none⟩) m cap (keepP p l)/\w.grownBy w' (some r):=by
 have HL:=hid hl
 have HF:=hid hf
 have hi24:(Tryz.prog.info? 48).map (·.size)=some 3:=by kernel_rfl
 have zv:∀w,(zeroValue 48).run Tryz.prog w=.ok (.agg #[.string ⟨#[]⟩,.bool false,.string ⟨#[]⟩]) w:=Tryz.zeroValue48
 have hrl:r<w.heap.size:=(Array.getElem?_eq_some_iff.1 hg).1
 have hR:RdF w w.heap.size (some ⟨r,0,none⟩) n cap l:=⟨aOj hg (by rw[FV.len_flat,hl]) hnc fun j u hu=>by simpa using aAy htake hu,hl,hf⟩
 have C0:=aJt p hn hR (fun x u hx hu=>hC x u hx ((aRx hu).but _))
 have HT0:=hid htake
 have HG0:=hid hg
 have HCS:=hid hcs
 clear htake hg hcs hl hf hR
 go_enter Tryz.func157,Tryz.ntmps157
 go_wp2_with fail
 refine C0.mono ?_
 rintro e w1 ⟨k,rfl,hk,hb1⟩
 clear C0
 have hg1:w.grownBy w1 (some r):=(aAo hb1).but _
 have HG1:=hid ((hb1.block r hrl).trans HG0.out)
 rcases hk with ⟨rfl,hno⟩ | ⟨j,f,rfl,hfj⟩
 ·have HK:=hid (aRe hno)
  clear hno
  go_wp2
  go_ret
  refine ⟨n,rfl,by rw[HK.out,HL.out],?_,hg1⟩
  rw[HK.out]
  exact ⟨aOj HG1.out (by rw[FV.len_flat,HL.out]) hnc fun j u hu=>by simpa using aAy HT0.out hu,HL.out,HF.out⟩
 have hjn:j<n:=by have:=(List.getElem?_eq_some_iff.1 hfj.1).1;rw[HL.out] at this;exact this
 have HKJ:=hid (show keepP p (l.take (j+1))=l.take j by
  rw[aOe p hfj.1,if_neg (by have:=hfj.2.1;simpa using this),List.append_nil]
  refine aRe fun x hx=>?_
  obtain ⟨i,hi,e⟩:=List.getElem_of_mem hx
  rw[List.length_take] at hi
  rw[List.getElem_take] at e
  exact hfj.2.2 i x (by omega) (by rw[<-e];exact List.getElem?_eq_getElem _))
 clear hfj
 have hj1:((j:Int) == -1)=false:=beq_eq_false_iff_ne.2 (by omega)
 go_wp2
 try rw[hj1]
 clear hj1
 go_loopw[5,6] (fun iv jv wr=>∃(i j':Nat) (cur':Array Value),j'<=n/\i<j'/\iv=.int .i64 i/\jv=.int .i64 j'/\w.grownBy wr (some r)/\Hid (wr.heap[r]? = some (.cells cur' 48 (0,0)))/\Hid (cur'.size=cap*3)/\Hid (cur'.toList.take (n*3)=(keepP p (l.take j')++l.drop i).flatMap FV.cells)/\Hid ((keepP p (l.take j')).length=i)) (fun _ jv _=>n-(intOf jv).toNat)
 case atStart=>exact ⟨j,j+1,cur,by omega,by omega,rfl,by go_num,hg1,HG1,HCS,hid (by rw[HKJ.out,List.take_append_drop];exact HT0.out),hid (by rw[HKJ.out,List.length_take,HL.out];omega)⟩
 clear hg1 HG1 HG0 HT0 HKJ hjn hb1
 obtain ⟨i,j',cur',hj',hij,rfl,rfl,hgr,HG,HC,HT,HI⟩:=hrel
 by_cases hlt:j'<n
 ·obtain ⟨x,hx⟩:∃x,l[j']? = some x:=⟨l[j']'(by rw[HL.out];exact hlt),List.getElem?_eq_getElem _⟩
  have hxf:=HF.out x (List.mem_of_getElem? hx)
  have hcell:∀t u,x.cells[t]? = some u->wr.cell? ⟨r,j'*3+t,none⟩=some u:=fun t u hu=>by
   have ht:t<3:=by have:=(List.getElem?_eq_some_iff.1 hu).1;exact this
   rw[cell_of_row wr _ _ _ _ _ HG.out]
   have e1:(keepP p (l.take j')++l.drop i)[j']? = some x:=by
    rw[List.getElem?_append_right (by rw[HI.out];omega),HI.out,List.getElem?_drop,show i+(j'-i)=j' by omega];exact hx
   have e2:=(T.flat_at (f:=FV.cells) FV.cells_len e1 ht).trans hu
   simpa using aAy HT.out e2
  have h0:wr.cell? ⟨r,j'*3,none⟩=some (.string x.path):=hcell 0 _ rfl
  have h1c:wr.cell? ⟨r,j'*3+1,none⟩=some (.bool x.exec):=hcell 1 _ rfl
  have h2c:wr.cell? ⟨r,j'*3+2,none⟩=some (.string x.text):=hcell 2 _ rfl
  have HK:=hid (aOe p hx)
  obtain ⟨W,hW⟩:∃u,u=wr.alloc (.cells #[.string x.path,.bool x.exec,.string x.text] 48):=⟨_,rfl⟩
  have hbW:Below wr.heap.size wr W:=by rw[hW];exact (Below.refl _ _).alloc (Nat.le_refl _) _
  have hgW:=hgr.andThen (aAo hbW) (fun j hj=>by cases hj)
  have C:=hC x W (List.mem_of_getElem? hx) hgW
  have hbox:∀t u,x.cells[t]? = some u->∀u',Below W.heap.size W u'->u'.cell? ⟨wr.heap.size,t,none⟩=some u:=fun t u hu u' hu'=>
   (hu'.cell (p:=⟨wr.heap.size,t,none⟩) (by show wr.heap.size<_;rw[hW];simp)).trans (by rw[hW,World.cell?,heap_alloc_new];simpa[FV.cells] using hu)
  have HB:=hid hbox
  have HW:=hid hW
  have hrw:r<wr.heap.size:=Nat.lt_of_lt_of_le hrl hgr.size
  have HGW:=hid ((hbW.block r hrw).trans HG.out)
  have hrW:=Nat.lt_of_lt_of_le hrw hbW.size
  clear hx hcell hW hbox
  cases hq:p x with
  | true=>
   rw[hq] at C
   have HN:=hid (show keepP p (l.take (j'+1))=keepP p (l.take j') by rw[HK.out,if_neg (by simpa using hq),List.append_nil])
   clear hq
   go_wp2_with fail
   rw[<-HW.out]
   refine C.mono ?_
   rintro e w2 ⟨rfl,hb2⟩
   have hg2:=hgW.andThen (aAo hb2) (fun j hj=>by cases hj)
   have HG2:=hid ((hb2.block r hrW).trans HGW.out)
   clear C h0 h1c h2c hbW hgW hb2 hgr
   go_wp2
   go_roundw
   case rel=>exact ⟨i,j'+1,cur',by omega,by omega,rfl,by go_num,hg2,HG2,HC,by rw[HN.out];exact HT,by rw[HN.out];exact HI⟩
   simp[intOf];omega
  | false=>
   rw[hq] at C
   have HN:=hid (show keepP p (l.take (j'+1))=keepP p (l.take j')++[x] by rw[HK.out,if_pos (by simpa using hq)])
   clear hq
   go_wp2_with fail
   rw[<-HW.out]
   refine C.mono ?_
   rintro e w2 ⟨rfl,hb2⟩
   have hg2:=hgW.andThen (aAo hb2) (fun j hj=>by cases hj)
   have HG2:=hid ((hb2.block r hrW).trans HGW.out)
   have x0:=HB.out 0 _ rfl w2 hb2
   have x1:=HB.out 1 _ rfl w2 hb2
   have x2:=HB.out 2 _ rfl w2 hb2
   clear C h0 h1c h2c hbW hgW hb2 hgr
   go_wp2_with (refine aIo rfl 48 (.tmp 33) (.tmp 32) rfl (cs:=#[.string x.path,.bool x.exec,.string x.text]) hi24 rfl rfl HG2.out (by rw[HC.out];show i*3+3<=_;omega) (aBn [x]) ?_)
   go_roundw
   case rel=>
    refine ⟨i+1,j'+1,_,by omega,by omega,by go_num,by go_num,aCr hg2 (.inr rfl),hid (setRow_heap _ _ _ _ _ _ HG2.out),hid ?_,hid ?_,hid ?_⟩
    ·simp only[List.size_toArray,List.length_append,List.length_cons,List.length_take,List.length_drop,Array.length_toList,HC.out];omega
    ·rw[HN.out]
     have h6:=bFs (x:=x) HI.out (by omega) HL.out (by rw[Array.length_toList];exact HC.out) hnc HT.out
     rw[List.append_assoc] at h6
     exact h6
    rw[HN.out,List.length_append,HI.out];rfl
   simp[intOf];omega
 obtain rfl:n=j':=by omega
 rw[List.take_of_length_le (Nat.le_of_eq HL.out)] at HT HI
 obtain ⟨k,hk⟩:∃k,n-i=k+1:=⟨n-i-1,by omega⟩
 obtain ⟨zs,hzs⟩:∃zs,zs=(Builtin.zeroCells (Value.agg #[.string ⟨#[]⟩,.bool false,.string ⟨#[]⟩]).cells (k+1)).toList:=⟨_,rfl⟩
 have hzl:zs.length=(k+1)*3:=by rw[hzs,aEt];rfl
 have hz1:∀u∈zs,u.oneCell'=true:=by
  rw[hzs]
  exact aEl (by decide) (aBn [⟨⟨#[]⟩,false,⟨#[]⟩⟩])
 obtain ⟨R2,eR2⟩:∃R:Array Value,R=(cur'.toList.take (i*3)++zs++cur'.toList.drop (i*3+zs.length)).toArray:=⟨_,rfl⟩
 have hcl:∀ty c',(Builtin.clear_ #[29] ty #[.slice (some ⟨r,i*3,none⟩) (n-i) c']).run Tryz.prog wr=.ok (.tuple #[]) (wr.setRow r R2):=fun ty c'=>by
  rw[hk,eR2]
  exact aDr wr _ _ ty _ Tryz.underlying29 zv hzs.symm HG.out (by rw[hzl,HC.out];omega) hz1
 have hpre:cur'.toList.take (i*3)=(keepP p l).flatMap FV.cells:=by
  have:(cur'.toList.take (n*3)).take (i*3)=cur'.toList.take (i*3):=by rw[List.take_take,Nat.min_eq_left (by omega)]
  rw[<-this,HT.out,List.flatMap_append,List.take_append_of_le_length (by rw[FV.len_flat,HI.out];exact Nat.le_refl _),List.take_of_length_le (by rw[FV.len_flat,HI.out];exact Nat.le_refl _)]
 have hkl:((keepP p l).flatMap FV.cells).length=i*3:=by rw[FV.len_flat,HI.out]
 have hfin:∀(j:Nat) (u:Value),((keepP p l).flatMap FV.cells)[j]? = some u->R2[j]? = some u:=fun j u hu=>by
  have hlt:j<i*3:=by have:=(List.getElem?_eq_some_iff.1 hu).1;omega
  rw[<-hpre] at hu
  rw[eR2]
  simp only[List.append_assoc]
  rw[List.getElem?_toArray,List.getElem?_append_left (by rw[List.length_take,Array.length_toList,HC.out];omega)]
  exact hu
 have HFI:=hid hfin
 have HKL:=hid hkl
 have HCL:=hid hcl
 have hcn:¬cap=i:=by omega
 clear hfin hkl hpre hcl eR2 hz1 hzl hzs hk zv
 have hcl:=HCL.out
 go_wp2
 go_ret
 exact ⟨i,rfl,HI.out,⟨bBi HG.out (by omega) HKL.out HFI.out,HI.out,fun x hx=>HF.out x (List.mem_filter.1 hx).1⟩,aCr hgr (.inr rfl)⟩
theorem SideIs.cells2 {w:World}{B s:Nat}{fs:Value}{base side:List FV}{L:List (Nat×Nat)}(h:SideIs w B s fs base side L):∃m1 m2 n2 D2,w.heap[s]? = some (.cells #[fs,.map (some m1),.map (some m2)] 214 (0,0))/\SetT w m2 n2 D2 (takenL side L):=by
 obtain ⟨⟨m1,m2,n1,n2,D1,D2,h1,_,h2,_⟩,_⟩:=h.ex,h.lo
 exact ⟨m1,m2,n2,D2,h1,h2⟩
def addedP (base side:List FV)(L:List (Nat×Nat))(f:FV):Bool:=(findP base f.path).isSome || takenL side L f.path.data.toList
theorem aYs {w:World}{B s n c bb bs:Nat}{A:Option Addr}{fs:Value} {base base' side:List FV}{L:List (Nat×Nat)}{f:FV}(hn:n<=1000000)(h:SideIs w B s fs base' side L)(hr:RdF w w.heap.size A n c base)(hf:f.path.size<=maxLen)
  (h1:w.heap[bb]? = some (.cells #[.slice A n c] 29 (0,0))) (h2:w.heap[bs]? = some (.cells #[.pointer (some ⟨s,0,none⟩)] 177 (0,0))) :
  Calls Tryz.prog 158 #[.agg #[.string f.path,.bool f.exec,.string f.text],.pointer (some ⟨bb,0,none⟩),.pointer (some ⟨bs,0,none⟩)] w fun e w'=>e=.returned (.bool (addedP base side L f))/\Below w.heap.size w w':=by
 obtain ⟨W,eW⟩:∃W,W=w.alloc (.cells #[.string f.path,.bool f.exec,.string f.text] 48):=⟨_,rfl⟩
 have hb:Below w.heap.size w W:=by rw[eW];exact (Below.refl _ _).alloc (Nat.le_refl _) _
 have xf:BoxF W w.heap.size f:=by rw[eW];exact BoxF.new _ _
 have d1:=(hb.block _ (aAa h1)).trans h1
 have d2:=(hb.block _ (aAa h2)).trans h2
 have HS:=hid (h.below hb)
 have K:=aHj (p:=f.path) (w:=W) (by omega) (hr.to hb hb.size)
 have c1:W.cell? ⟨bb,0,none⟩=some (.slice A n c):=by rw[Lib.cell_of_heap d1];rfl
 have x0:=xf.c0
 have HB:=hid hb
 have HXF:=hid xf
 have HD2:=hid d2
 have HP:Hid (addedP base side L f=((findP base f.path).isSome || takenL side L f.path.data.toList)):=hid rfl
 rw[eW] at c1 x0 K
 clear hb xf d1 d2 h hr h1 h2
 go_enter Tryz.func158,Tryz.ntmps158
 go_wp2_with fail
 refine K.mono ?_
 rintro e w1 ⟨rfl,hb1⟩
 rw[<-eW] at hb1
 clear K c1 x0 eW
 generalize hg:optF (findP base f.path)=g
 generalize hi:(findP base f.path).isSome=is
 rw[hi] at HP
 clear hg hi
 have hbb:Below w1.heap.size w1 (w1.alloc (.cells #[.string g.path,.bool g.exec,.string g.text] 48)):=(Below.refl _ _).alloc (Nat.le_refl _) _
 have HS2:=hid ((HS.out.below hb1).below hbb)
 have HX2:=hid ((HXF.out.below hb1).below hbb)
 have HB2:=hid ((HB.out.trans (hb1.mono HB.out.size)).trans (hbb.mono (Nat.le_trans HB.out.size hb1.size)))
 have HDD:=hid ((hbb.block _ (Nat.lt_of_lt_of_le (aAa HD2.out) hb1.size)).trans ((hb1.block _ (aAa HD2.out)).trans HD2.out))
 clear hb1 hbb HS HXF HD2 HB
 cases is
 ·obtain ⟨m1,m2,n2,D2,hcs,hm2⟩:=HS2.out.cells2
  have HCS:=hid hcs
  have HM2:=hid hm2
  clear hcs hm2
  go_wp2
  generalize w1.alloc (.cells #[.string g.path,.bool g.exec,.string g.text] 48)=V at *
  refine aAh (fun u=>Below V.heap.size V u) [(true,0),(true,1),(true,2),(true,3),(true,4),(true,5),(true,6),(true,7),(false,8),(false,9),(true,10),(true,11)] mixed (by kernel_rfl) (Below.refl _ _).drew ?_
  intro T M Q hT hT' hM hQ
  have m0:M ⟨bs,0,none⟩=some (.pointer (some ⟨s,0,none⟩)):=hM _ _ fun w' hw=>by rw[Lib.cell_of_heap ((hw.block _ (aAa HDD.out)).trans HDD.out)];rfl
  have m1':M ⟨s,2,none⟩=some (.map (some m2)):=hM _ _ fun w' hw=>by rw[Lib.cell_of_heap ((hw.block _ (aAa HCS.out)).trans HCS.out)];rfl
  have m2':M ⟨w.heap.size,0,none⟩=some (.string f.path):=hM _ _ fun w' hw=>(HX2.out.below hw).c0
  clear hM
  simp only[qcmp]
  simp (maxSteps:=9^7) only[↓qpre,aAb,aAe,aAc,m0,m1',m2']
  refine aBz rfl (aKx _ _) ⟨hT _ (Below.refl _ _).drew,?_⟩
  simp (maxSteps:=9^7) only[↓qpre,aAb,aAc]
  refine aMb rfl rfl ((HM2.out.below (Below.refl V.heap.size V).drew).look hf) ⟨hT _ (Below.refl _ _).drew,?_⟩
  simp (maxSteps:=9^7) only[↓qpre,aAb,aAc]
  refine hQ _ _ ?_
  have HBD:Hid (Below w.heap.size w V.drew):=HB2.out.drew
  clear hQ hT hT' m0 m1' m2' HS2 HX2 HCS HM2 HDD HB2
  go_wp2
  go_ret
  exact ⟨by rw[HP.out];rfl,HBD.out⟩
 go_wp2
 generalize w1.alloc (.cells #[.string g.path,.bool g.exec,.string g.text] 48)=V at *
 refine aAh (fun u=>True) [(true,0),(true,1),(true,2),(true,3),(true,4),(true,5),(true,6),(true,7),(false,8),(false,9),(true,10),(true,11)] mixed (by kernel_rfl) trivial ?_
 intro T M Q hT hT' hM hQ
 clear hM
 simp only[qcmp]
 simp (maxSteps:=9^7) only[↓qpre,aAb,aAc]
 refine hQ _ _ ?_
 have HBD:Hid (Below w.heap.size w V.drew):=HB2.out.drew
 clear hQ hT hT' HS2 HX2 HDD HB2
 go_wp2
 go_ret
 exact ⟨by rw[HP.out];rfl,HBD.out⟩
theorem aTz {w:World}{q1 q2:Value}:Calls Tryz.prog 157 #[.slice none 0 0,.func (.func 158) #[] #[q1,q2]] w fun e w'=>e=.returned (.slice none 0 0)/\Below w.heap.size w w':=by
 have C0:=aJt (q1:=q1) (q2:=q2) (fun _=>false) (by omega) (RdF.none_ w w.heap.size) (fun x u hx=>by cases hx)
 go_enter Tryz.func157,Tryz.ntmps157
 go_wp2_with fail
 refine C0.mono ?_
 rintro e w1 ⟨k,rfl,hk,hb1⟩
 rcases hk with ⟨rfl,hno⟩ | ⟨j,f,rfl,hfj,_⟩
 ·clear C0 hno
  go_wp2
  go_ret
  exact ⟨rfl,hb1⟩
 simp at hfj
def FilesOf (l:List FV)(w:World)(e:Ending) (w':World):Prop:=∃A c,e=.returned (.slice A l.length c)/\RdF w' w'.heap.size A l.length c l/\Below w.heap.size w w'/\NewAt A w.heap.size
theorem aNy {w:World}{B s n c n2 c2:Nat}{A A2:Option Addr}{base side:List FV}{L:List (Nat×Nat)}(hn:n<=1000000)(hn2:n2<=1000000)(h:SideIs w B s (.slice A2 n2 c2) base side L)(hs:RdF w w.heap.size A2 n2 c2 side)(hr:RdF w w.heap.size A n c base)
  (hf:∀f∈side,f.path.size<=maxLen) :
  Calls Tryz.prog 132 #[.pointer (some ⟨s,0,none⟩),.slice A n c] w (FilesOf (keepP (addedP base side L) side) w):=by
 obtain ⟨W1,eW1⟩:∃W,W=w.alloc (.cells #[.pointer (some ⟨s,0,none⟩)] 177):=⟨_,rfl⟩
 obtain ⟨W,eW⟩:∃W,W=W1.alloc (.cells #[.slice A n c] 29):=⟨_,rfl⟩
 have b1:Below w.heap.size w W1:=by rw[eW1];exact (Below.refl _ _).alloc (Nat.le_refl _) _
 have b2:Below W1.heap.size W1 W:=by rw[eW];exact (Below.refl _ _).alloc (Nat.le_refl _) _
 have s1:W1.heap.size=w.heap.size+1:=by rw[eW1];simp
 have d2:W.heap[w.heap.size]? = some (.cells #[.pointer (some ⟨s,0,none⟩)] 177 (0,0)):=(b2.block _ (by omega)).trans (by rw[eW1];exact heap_alloc_new _ _)
 have d1:W.heap[w.heap.size+1]? = some (.cells #[.slice A n c] 29 (0,0)):=by rw[eW,<-s1];exact heap_alloc_new _ _
 have b12:=b1.trans (b2.mono b1.size)
 have HS:=hid (h.below b12)
 have HR:=hid (hr.to b12 b12.size)
 have HD1:=hid d1
 have HD2:=hid d2
 have HB:=hid b12
 have HFT:=hid hs.fits
 have HLN:=hid hs.len
 have HFF:=hid hf
 have KC:=aNw hn2 (hs.to b12 b12.size)
 have c2':W.cell? ⟨w.heap.size,0,none⟩=some (.pointer (some ⟨s,0,none⟩)):=by rw[Lib.cell_of_heap d2];rfl
 obtain ⟨m1,m2,n9,D2,hcs,hm2⟩:=HS.out.cells2
 have c3:W.cell? ⟨s,0,none⟩=some (.slice A2 n2 c2):=by rw[Lib.cell_of_heap hcs];rfl
 rw[eW1] at eW
 rw[eW] at KC c2' c3
 clear b1 b2 s1 d1 d2 b12 h hs hr hf hcs hm2 eW1
 go_enter Tryz.func132,Tryz.ntmps132
 go_wp2_with fail
 refine KC.mono ?_
 rintro e w1 ⟨v,rfl,ho,hb1⟩
 rw[<-eW] at ho hb1
 have HB1:=hid hb1
 rcases ho.2 with ⟨rfl,hl0⟩ | ⟨g,cap,cur,rfl,hgB,hg,hnc,hcm,hcs,ht⟩
 ·have hs0:side=[]:=List.length_eq_zero_iff.1 (by have:=HLN.out;omega)
  have KD:=aTz (w:=w1) (q1:=.pointer (some ⟨w.heap.size+1,0,none⟩)) (q2:=.pointer (some ⟨w.heap.size,0,none⟩))
  have HS0:=hid hs0
  clear KC ho hb1 hl0 c2' c3 hs0 eW
  go_wp2_with fail
  refine KD.mono ?_
  rintro e w2 ⟨rfl,hb2⟩
  have HB2:=hid ((HB.out.trans (HB1.out.mono HB.out.size)).trans (hb2.mono (Nat.le_trans HB.out.size HB1.out.size)))
  clear KD hb2
  go_wp2
  go_ret
  exact ⟨none,0,by rw[HS0.out];rfl,by rw[HS0.out];exact RdF.none_ _ _,HB2.out,NewAt.none_ _⟩
 have KD:=aOy (r:=g) (n:=n2) (cap:=cap) (q1:=.pointer (some ⟨w.heap.size+1,0,none⟩)) (q2:=.pointer (some ⟨w.heap.size,0,none⟩)) (addedP base side L) (l:=side) (w:=w1) hn2 hg hnc hcm hcs ht HLN.out HFT.out (fun x u hx hu=>by
  have hbu:Below W.heap.size W u:=HB1.out.grown hu HB1.out.size (fun g' e=>by injection e with e;omega)
  exact aYs hn (HS.out.below hbu) (HR.out.to hbu hbu.size) (HFF.out x hx) ((hbu.block _ (aAa HD1.out)).trans HD1.out) ((hbu.block _ (aAa HD2.out)).trans HD2.out))
 have HGB:=hid hgB
 clear KC ho hb1 c2' c3 eW hg hnc hcm hcs ht
 go_wp2_with fail
 refine KD.mono ?_
 rintro e w2 ⟨m,rfl,hm,hr2,hg2⟩
 have HB2:=hid (HB.out.trans ((HB1.out.grown hg2 HB1.out.size (fun g' e=>by injection e with e;have:=HGB.out;omega)).mono HB.out.size))
 have HR2:=hid hr2
 have HM:=hid hm
 clear KD hm hr2 hg2 hgB
 go_wp2
 go_ret
 exact ⟨_,cap,by rw[HM.out];rfl,by rw[HM.out];exact HR2.out,HB2.out,fun b o s e=>by
  injection e with e
  injection e with e _ _
  have:=HGB.out;have:=HB.out.size;omega⟩
theorem bGt (x y:FV)(w:World):(binOp .eql 48 (.agg #[.string x.path,.bool x.exec,.string x.text]) (.agg #[.string y.path,.bool y.exec,.string y.text])).run Tryz.prog w=.ok (.bool (decide (x=y))) w:=by
 rw[run_eql_struct,bBa];rfl
theorem aVv {α:Type}(p:α->Bool){l:List α}{k:Nat}{x:α}(hx:l[k]? = some x):(l.take (k+1)).filter p=(l.take k).filter p++if p x=true then [x] else []:=by
 rw[List.take_add_one,hx,List.filter_append]
 by_cases h:p x=true
 ·simp[h]
 simp[h]
theorem aZr {Z:Nat->Obj->Prop}{w0 w:World}{mb N n1 n2 c1 c2:Nat}{A1 A2:Option Addr}{fv cv:Value}{m:List FV×List CL}{ours theirs:List FV}(hL:Lm w0)(h:MI Z w0 w mb fv cv m N)(hn:N+n1+n2<=100000)
  (h1:∀u:World,(∀k ob,Z k ob->u.heap[k]? = some ob)->RdF u u.heap.size A1 n1 c1 ours) (h2:∀u:World,(∀k ob,Z k ob->u.heap[k]? = some ob)->RdF u u.heap.size A2 n2 c2 theirs) (s1:∀f∈ours,f.path.size<=20000/\f.text.size<=20000) (s2:∀f∈theirs,f.path.size<=20000/\f.text.size<=20000) :
  Calls Tryz.prog 131 #[.pointer (some ⟨mb,0,none⟩),.slice A1 n1 c1,.slice A2 n2 c2] w (PutIs Z w0 mb (addM ours theirs m) (N+n1+n2)):=by
 have HR1:=hid h1
 have HR2:=hid h2
 have HS1:=hid s1
 have HS2:=hid s2
 have HL:=hid hL
 have HM0:=hid h
 have HLN1:=hid (h1 w (fun k ob hz=>(h.oth k ob hz).1)).len
 have HLN2:=hid (h2 w (fun k ob hz=>(h.oth k ob hz).1)).len
 clear h1 h2 s1 s2 hL h
 go_enter Tryz.func131,Tryz.ntmps131
 go_wp2
 go_loopw[16] (fun i wr=>∃k:Nat,k<=n1/\i=.int .i64 k/\∃fv' cv',Hid (MI Z w0 wr mb fv' cv' ((ours.take k).foldl (addOne theirs) m) (N+k))) (fun i _=>n1-(intOf i).toNat)
 case atStart=>exact ⟨0,Nat.zero_le _,rfl,fv,cv,HM0⟩
 clear HM0
 obtain ⟨k,hk,rfl,fv',cv',HM⟩:=hrel
 by_cases hlt:k<n1
 ·obtain ⟨b0,o0,f,rfl,hbb,hx,hm,h0,h1,h2⟩:=(HR1.out wr (fun k ob hz=>(HM.out.oth k ob hz).1)).get hlt
  have HT:=hid (show (ours.take (k+1)).foldl (addOne theirs) m=addOne theirs ((ours.take k).foldl (addOne theirs) m) f by rw[List.take_add_one,hx,List.foldl_append];rfl)
  have hfs:=HS1.out f hm
  clear hx hm hbb
  generalize (ours.take k).foldl (addOne theirs) m=mk at *
  have hba:Below wr.heap.size wr (wr.alloc (.cells #[.string f.path,.bool f.exec,.string f.text] 48)):=(Below.refl _ _).alloc (Nat.le_refl _) _
  have HM1:=hid (HM.out.below hba)
  have HX1:=hid (BoxF.new wr f)
  have HPM:=hid (show mb≠wr.heap.size from Nat.ne_of_lt (aAa HM.out.hs))
  have HPF:=hid (fun e:fv'.ownBlock=some wr.heap.size=>Nat.lt_irrefl _ (HM.out.f1.lt _ e).2)
  have HPC:=hid (fun e:cv'.ownBlock=some wr.heap.size=>Nat.lt_irrefl _ (HM.out.c1.lt _ e).2)
  have HPB:=hid HM.out.bel.size
  have HPZ:=hid (show ∀j ob,Z j ob->j≠wr.heap.size from fun j ob hz=>by have:=aAa (HM.out.oth j ob hz).1;omega)
  have KF:=aHj (p:=f.path) (w:=wr.alloc (.cells #[.string f.path,.bool f.exec,.string f.text] 48)) (by omega) (HR2.out _ (fun k ob hz=>(HM1.out.oth k ob hz).1))
  have x0:=HX1.out.c0
  clear hba
  generalize hq7:wr.heap.size=q7 at HX1 HPM HPF HPC HPB HPZ
  go_wp2_with fail
  refine KF.mono ?_
  rintro e w1 ⟨rfl,hb1⟩
  clear hq7
  cases hy:findP theirs f.path with
  | none=>
   simp only[optF,Option.isSome_none,Option.getD_none]
   have HE:=hid (show addOne theirs mk f=putM mk f 0 by unfold addOne;rw[hy])
   have hbb1:Below w1.heap.size w1 (w1.alloc (.cells #[.string zF.path,.bool zF.exec,.string zF.text] 48)):=(Below.refl _ _).alloc (Nat.le_refl _) _
   have HM2:=hid ((HM1.out.below hb1).below hbb1)
   have HX2:=hid ((HX1.out.below hb1).below hbb1)
   have KP:=aAx (f:=f) (kind:=0) HM2.out (by omega) (show f.path.size<=1000000/\f.text.size<=1000000 from ⟨by omega,by omega⟩)
   clear KF hb1 hbb1 hy HM1 HX1 HM x0 h0 h1 h2
   have x0:=HX2.out.c0
   have x1:=HX2.out.c1
   have x2:=HX2.out.c2
   go_wp2_with fail
   refine KP.mono ?_
   rintro e w3 ⟨rfl,fv3,cv3,hp3⟩
   have HN:=hid hp3
   clear KP hp3 HM2 HX2 x0 x1 x2 hfs HPM HPF HPC HPB HPZ
   go_wp2
   go_roundw
   case rel=>exact ⟨k+1,by omega,by go_num,fv3,cv3,by rw[HT.out,HE.out];exact HN⟩
   simp[intOf];omega
  | some y=>
   simp only[optF,Option.isSome_some,Option.getD_some]
   have hys:=HS2.out y (aCi hy).1
   have hbb1:Below w1.heap.size w1 (w1.alloc (.cells #[.string y.path,.bool y.exec,.string y.text] 48)):=(Below.refl _ _).alloc (Nat.le_refl _) _
   have HM2:=hid ((HM1.out.below hb1).below hbb1)
   have HX2:=hid ((HX1.out.below hb1).below hbb1)
   have HY2:=hid (BoxF.new w1 y)
   have HFY:=hid hy
   clear KF hb1 hbb1 hy HM1 HX1 HM x0 h0 h1 h2
   have x0:=HX2.out.c0
   have x1:=HX2.out.c1
   have x2:=HX2.out.c2
   have y0:=HY2.out.c0
   have y1:=HY2.out.c1
   have y2:=HY2.out.c2
   have hne:=fun u=>bGt f y u
   by_cases he:f=y
   ·have HE:=hid (show addOne theirs mk f=putM mk f 0 by unfold addOne;rw[HFY.out];exact if_pos he)
    have KP:=aAx (f:=f) (kind:=0) HM2.out (by omega) (show f.path.size<=1000000/\f.text.size<=1000000 from ⟨by omega,by omega⟩)
    rw[decide_eq_true he] at hne
    clear he
    go_wp2_with fail
    refine KP.mono ?_
    rintro e w3 ⟨rfl,fv3,cv3,hp3⟩
    have HN:=hid hp3
    clear KP hp3 HM2 HX2 HY2 x0 x1 x2 y0 y1 y2 hfs hys HPM HPF HPC HPB HPZ hne
    go_wp2
    go_roundw
    case rel=>exact ⟨k+1,by omega,by go_num,fv3,cv3,by rw[HT.out,HE.out];exact HN⟩
    simp[intOf];omega
   have HE:=hid (show addOne theirs mk f=putM mk ⟨f.path,f.exec,(merge3F ⟨#[]⟩ f.text y.text).1⟩ 2 by unfold addOne;rw[HFY.out];exact if_neg he)
   rw[decide_eq_false he] at hne
   clear he
   have K3:=aBs (b:=⟨#[]⟩) (o:=f.text) (t:=y.text) (HL.out.to HM2.out.bel) (by decide) (by omega) (by omega)
   have HRS:=hid (show (merge3F ⟨#[]⟩ f.text y.text).1.size<=72773 by have:=aOr ⟨#[]⟩ f.text y.text;have e0:(⟨#[]⟩:ByteArray).size=0:=rfl;omega)
   go_wp2_with fail
   refine K3.mono ?_
   rintro e w3 ⟨rfl,hb3⟩
   have HM3:=hid (HM2.out.below hb3)
   have HX3:=hid (HX2.out.below hb3)
   clear K3 hb3 HM2 HX2 HY2 x0 x1 x2 y0 y1 y2 hne
   generalize merge3F ⟨#[]⟩ f.text y.text=R at *
   obtain ⟨rt,rc⟩:=R
   dsimp only at HE HRS ⊢
   have HX4:=hid (HX3.out.set2 rt)
   have HM4:=hid (HM3.out.setBox (k:=2) (v:=.string rt) HPB.out HPM.out HPF.out HPC.out HPZ.out)
   have y0:=HX3.out.c0
   have y1:=HX3.out.c1
   have y2:=HX3.out.c2
   have y3:=HX3.out.frozen 2
   have z0:=HX4.out.c0
   have z1:=HX4.out.c1
   have z2:=HX4.out.c2
   have KP:=aAx (f:=⟨f.path,f.exec,rt⟩) (kind:=2) HM4.out (by omega) (show f.path.size<=1000000/\rt.size<=1000000 from ⟨by omega,by have:=HRS.out;omega⟩)
   clear HM3 HX3
   go_wp2_with fail
   refine KP.mono ?_
   rintro e w5 ⟨rfl,fv3,cv3,hp3⟩
   have HN:=hid hp3
   clear KP hp3 HM4 HX4 y0 y1 y2 y3 z0 z1 z2 hfs hys HPM HPF HPC HPB HPZ
   go_wp2
   go_roundw
   case rel=>exact ⟨k+1,by omega,by go_num,fv3,cv3,by rw[HT.out,HE.out];exact HN⟩
   simp[intOf];omega
 have hkn:k=n1:=by omega
 subst hkn
 have HM9:Hid (MI Z w0 wr mb fv' cv' (ours.foldl (addOne theirs) m) (N+k)):=by have:=HM.out;rw[List.take_of_length_le (by rw[HLN1.out];exact Nat.le_refl _)] at this;exact hid this
 have HAM:=hid (show addM ours theirs m=(theirs.filter fun y=>(findP ours y.path).isNone).foldl (fun m y=>putM m y 0) (ours.foldl (addOne theirs) m) from rfl)
 generalize ours.foldl (addOne theirs) m=mo at *
 clear HM hlt
 go_wp2
 go_loopw[52] (fun i wr=>∃j:Nat,j<=n2/\i=.int .i64 j/\∃fv' cv',Hid (MI Z w0 wr mb fv' cv' (((theirs.take j).filter fun y=>(findP ours y.path).isNone).foldl (fun m y=>putM m y 0) mo) (N+k+j))) (fun i _=>n2-(intOf i).toNat)
 case atStart=>exact ⟨0,Nat.zero_le _,rfl,fv',cv',HM9⟩
 clear HM9
 obtain ⟨j,hj,rfl,fv2,cv2,HM⟩:=hrel
 by_cases hlt:j<n2
 ·obtain ⟨b0,o0,f,rfl,hbb,hx,hm,h0,h1,h2⟩:=(HR2.out wr (fun k ob hz=>(HM.out.oth k ob hz).1)).get hlt
  have HT:=hid (aVv (fun y=>(findP ours y.path).isNone) hx)
  have hfs:=HS2.out f hm
  clear hx hm hbb
  generalize (theirs.take j).filter (fun y=>(findP ours y.path).isNone)=tj at *
  have hba:Below wr.heap.size wr (wr.alloc (.cells #[.string f.path,.bool f.exec,.string f.text] 48)):=(Below.refl _ _).alloc (Nat.le_refl _) _
  have HM1:=hid (HM.out.below hba)
  have HX1:=hid (BoxF.new wr f)
  have KF:=aHj (p:=f.path) (w:=wr.alloc (.cells #[.string f.path,.bool f.exec,.string f.text] 48)) (by omega) (HR1.out _ (fun k ob hz=>(HM1.out.oth k ob hz).1))
  have x0:=HX1.out.c0
  clear hba
  go_wp2_with fail
  refine KF.mono ?_
  rintro e w1 ⟨rfl,hb1⟩
  generalize hg:optF (findP ours f.path)=g
  have hbb1:Below w1.heap.size w1 (w1.alloc (.cells #[.string g.path,.bool g.exec,.string g.text] 48)):=(Below.refl _ _).alloc (Nat.le_refl _) _
  have HM2:=hid ((HM1.out.below hb1).below hbb1)
  have HX2:=hid ((HX1.out.below hb1).below hbb1)
  clear KF hb1 hbb1 hg HM1 HX1 HM x0 h0 h1 h2
  generalize wr.heap.size=q11 at *
  cases hy:findP ours f.path with
  | none=>
   simp only[Option.isSome_none]
   have HE:=hid (show (theirs.take (j+1)).filter (fun y=>(findP ours y.path).isNone)=tj++[f] by rw[HT.out,hy];rfl)
   have KP:=aAx (f:=f) (kind:=0) HM2.out (by omega) (show f.path.size<=1000000/\f.text.size<=1000000 from ⟨by omega,by omega⟩)
   have x0:=HX2.out.c0
   have x1:=HX2.out.c1
   have x2:=HX2.out.c2
   clear hy
   go_wp2_with fail
   refine KP.mono ?_
   rintro e w3 ⟨rfl,fv3,cv3,hp3⟩
   have HN:=hid hp3
   clear KP hp3 HM2 HX2 x0 x1 x2 hfs
   go_wp2
   go_roundw
   case rel=>exact ⟨j+1,by omega,by go_num,fv3,cv3,by rw[HE.out,List.foldl_append];exact HN⟩
   simp[intOf];omega
  | some y=>
   simp only[Option.isSome_some]
   have HE:=hid (show (theirs.take (j+1)).filter (fun y=>(findP ours y.path).isNone)=tj by rw[HT.out,hy];exact List.append_nil _)
   have HN:=hid (HM2.out.more (show N+k+j<=N+k+(j+1) by omega))
   clear hy HM2 HX2 hfs
   go_wp2
   go_roundw
   case rel=>exact ⟨j+1,by omega,by go_num,fv2,cv2,by rw[HE.out];exact HN⟩
   simp[intOf];omega
 have hjn:j=n2:=by omega
 subst hjn
 go_wp2
 refine bodyPost_end (results_none rfl _ _ _) rfl ?_
 exact ⟨rfl,fv2,cv2,by have:=HM.out;rw[List.take_of_length_le (by rw[HLN2.out];exact Nat.le_refl _)] at this;rw[HAM.out];exact this⟩
end Go.Proofs.YtohblmepajhpaaaGreatDoor
namespace Go.Proofs.YtohblmepajhpaaaGreatDoor
open Go.RowKit Go.Sort
def cmpF (x y:FV):Int:=cmpS x.path y.path
theorem grow2 (u:World)(a b:Obj):(u.alloc a).alloc b=Sort.grow (u.drewN 0) #[a,b]:=by
 have:(u.heap.push a).push b=u.heap++#[a,b]:=by
  apply Array.toList_inj.1;simp
 unfold World.alloc World.drewN Sort.grow
 simp only[this]
 rfl
theorem bFf {x y:FV}{w:World}:Calls Tryz.prog 134 #[.agg #[.string x.path,.bool x.exec,.string x.text],.agg #[.string y.path,.bool y.exec,.string y.text]] w (GrowsI (cmpF x y) w):=by
 have hb1:Below w.heap.size w (w.alloc (.cells #[.string x.path,.bool x.exec,.string x.text] 48)):=(Below.refl _ _).alloc (Nat.le_refl _) _
 have X:=(BoxF.new w x).below (w':=(w.alloc (.cells #[.string x.path,.bool x.exec,.string x.text] 48)).alloc (.cells #[.string y.path,.bool y.exec,.string y.text] 48)) ((Below.refl _ _).alloc (Nat.le_refl _) _)
 have Y:=BoxF.new (w.alloc (.cells #[.string x.path,.bool x.exec,.string x.text] 48)) y
 have c0:=X.c0
 have c1:=Y.c0
 have e1:(w.alloc (.cells #[.string x.path,.bool x.exec,.string x.text] 48)).heap.size=w.heap.size+1:=by simp
 rw[e1] at c1
 have K:=aFn (a:=x.path) (b:=y.path) (w:=(w.alloc (.cells #[.string x.path,.bool x.exec,.string x.text] 48)).alloc (.cells #[.string y.path,.bool y.exec,.string y.text] 48))
 have HG:=hid (grow2 w (.cells #[.string x.path,.bool x.exec,.string x.text] 48) (.cells #[.string y.path,.bool y.exec,.string y.text] 48))
 clear hb1 X Y e1
 go_enter Tryz.func134,Tryz.ntmps134
 go_wp2_with fail
 refine K.mono ?_
 rintro e w1 ⟨rfl,rfl⟩
 clear K c0 c1
 go_wp2
 go_ret
 exact ⟨rfl,0,_,HG.out⟩
theorem swoF:SWO (ltOf cmpF) where
 irrefl x:=by unfold ltOf;rw[decide_eq_false];unfold cmpF;rw[aGg];exact List.lt_irrefl _
 trans x y z h1 h2:=by
  unfold ltOf cmpF at *
  rw[decide_eq_true_iff,aGg] at *
  exact List.lt_trans h1 h2
 ntrans x y z h1 h2:=by
  unfold ltOf cmpF at *
  rw[decide_eq_false_iff_not,aGg] at *
  intro h3
  have h4:y.path.data.toList<=x.path.data.toList:=h1
  have h5:z.path.data.toList<=y.path.data.toList:=h2
  exact (List.le_trans h5 h4) h3
def SortedFs (w0:World)(v:Value)(l:List FV)(w:World)(e:Ending) (w':World):Prop:=
 e=.returned (.tuple #[])/\w'.ownsRow w0.heap.size 48 3 v l.length ((sortF l).flatMap FV.cells)/\w.grownBy w' v.ownBlock
theorem bBr {w0 w:World}{v:Value}{l:List FV}(ho:w.ownsRow w0.heap.size 48 3 v l.length (l.flatMap FV.cells))(hd:l.Pairwise fun x y=>x.path≠y.path)(hl:l.length<=100000) :
  Calls Tryz.prog 133 #[v,.func (.func 134) #[] #[]] w (SortedFs w0 v l w):=by
 rcases ho.2 with ⟨rfl,hl0⟩ | ⟨g,cap,cur,rfl,hgB,hg,hnc,hcm,hcs,ht⟩
 ·have:l=[]:=List.length_eq_zero_iff.1 hl0
  subst this
  have K:=AnyF.slices_SortFunc_none Tryz.sortF none 0 (.func (.func 134) #[] #[]) w
  refine Calls.mono (show Calls Tryz.prog 133 _ w _ from K) ?_
  rintro e w' ⟨rfl,rfl⟩
  exact ⟨rfl,ho,(aAo (Below.refl _ _)).but _⟩
 have hgw:g<w.heap.size:=aAa hg
 haveI:Inhabited FV:=⟨zF⟩
 have hH:HoldsK FV.cells 3 w g 0 l.toArray:=aSq (by decide:0<3) (fun _=>rfl) hg (by simpa using ht)
 have hcmp:CmpLays Tryz.prog 134 #[] FV.cells 3 cmpF g 0 l.toArray.size w:=by
  intro m os dk _ x y
  exact bFf
 have eg:∀args w,(callFunc 134 args).run Tryz.prog w=.ok (.enter 134 args) w:=enters_of Tryz.func134 (by kernel_rfl) rfl
 have K:=AnyQ.slices_SortFunc Tryz.sortF 3 Tryz.isAgg48 Tryz.sizeOf48 FV.cells (fun _=>rfl) (fun x=>by have:=aBn [x];simpa using this) cmpF swoF 134 #[] g 0 cap l.toArray w eg hcmp hH hgw (by simp;omega)
 simp only[List.size_toArray] at K
 refine Calls.mono (show Calls Tryz.prog 133 _ w _ from K) ?_
 rintro e w' ⟨rfl,d',m,os,hperm,hsort,rfl⟩
 obtain ⟨hsz,_,hpm⟩:=hperm
 have hds':d'.size=l.length:=hsz.trans (by simp)
 have hpl:d'.toList.Perm l:=by
  have e1:d'.extract 0 l.length=d':=by rw[<-hds',Array.extract_size]
  have e2:l.toArray.extract 0 l.length=l.toArray:=by
   simp
  rw[e1,e2] at hpm
  exact hpm
 have hdd:d'.toList.Pairwise fun a b=>a.p<b.p:=by
  have hdp:d'.toList.Pairwise fun x y=>x.path≠y.path:=hpl.symm.pairwise hd (fun h e=>h e.symm)
  rw[List.pairwise_iff_getElem] at hdp ⊢
  intro i j hi hj hij
  have h1:=hdp i j hi hj hij
  have hi':i<d'.size:=by simpa using hi
  have hj':j<d'.size:=by simpa using hj
  have h2:=hsort i j (Nat.zero_le _) hij (by omega)
  rw[getElem!_pos d' i hi',getElem!_pos d' j hj'] at h2
  unfold ltOf cmpF at h2
  rw[decide_eq_false_iff_not,aGg] at h2
  rw[Array.getElem_toList,Array.getElem_toList] at h1 ⊢
  have h3:d'[i].p<=d'[j].p:=h2
  rcases Classical.em (d'[i].p<d'[j].p) with h | h
  ·exact h
  exact absurd (FV.p_inj.1 (List.le_antisymm h3 h)) h1
 have hso:=aHt l hd
 have heq:d'.toList=sortF l:=aTb hdd hso.1.pair fun x=>by rw[hso.2 x,hpl.mem_iff]
 obtain ⟨cur',hg',hcs',ht'⟩:=aOp (n:=m) (os:=os) (d:=d') (enc:=FV.cells) (by decide:0<3) (fun _=>rfl) hg (by rw[hds',hcs];omega)
 have hsl:(sortF l).length=l.length:=by rw[<-heq,Array.length_toList,hds']
 refine ⟨rfl,⟨by rw[FV.len_flat,hsl],.inr ⟨g,cap,cur',rfl,hgB,hg',hnc,hcm,hcs'.trans hcs,?_⟩⟩,aHg _ _ _ _ _ _ _ _⟩
 rw[<-hds',ht',heq]
end Go.Proofs.YtohblmepajhpaaaGreatDoor
