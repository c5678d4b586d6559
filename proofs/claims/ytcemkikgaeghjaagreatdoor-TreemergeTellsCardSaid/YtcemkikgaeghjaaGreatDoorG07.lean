/- Texts of the walks, together: Walks: where a file stands, and what is found. Walks: the document's Find, without, Clashes, Sorted. -/
import Derived.Laws.ResultCell
import Derived.Test.YtcemkikgaeghjaaGreatDoorG05
import Derived.Test.YtcemkikgaeghjaaGreatDoorG06
set_option maxHeartbeats 8000000
set_option maxRecDepth 100000
open Go.Lib (hid)
namespace Go.Proofs.YtcemkikgaeghjaaGreatDoor
open Go.RowKit
def PlaceF (q:FV->Bool)(l:List FV)(w:World)(e:Ending) (w':World):Prop:=
 ∃k:Int,e=.returned (.int .i64 k)/\((k=-1/\∀f∈l,q f=false)\/∃(j:Nat) (f:FV),k=j/\FirstAt q l j f)/\Below w.heap.size w w'
def isP (p:ByteArray)(f:FV):Bool:=decide (f.path=p)
def aboveP (p:ByteArray)(f:FV):Bool:=decide (p.data.toList<f.p)
theorem bGy (a b:ByteArray):(!Op.bytesLess a.toList b.toList && !(a.toList == b.toList))=decide (b.data.toList<a.data.toList):=by
 rw[<-Bool.not_or,aRw,aQf,Bool.not_not]
theorem aAk {B g:Nat}{w w1:World}{cs:Array Value}(h:Below B w w1)(hg:B<=g):Below B w (w1.setRow g cs):=
 ⟨h.os,h.tape,h.output,by have:=h.size;simpa[World.setRow] using this,fun k hk=>by rw[setRow_other _ _ _ _ (fun e=>by omega)];exact h.block k hk⟩
theorem bHw {f:FV}{g:Nat}{p:ByteArray}{w:World}(hg:w.cell? ⟨g,0,none⟩=some (.string p))(hgl:g<w.heap.size) :
  Calls Tryz.prog 128 #[.agg #[.string f.path,.bool f.exec,.string f.text],.pointer (some ⟨g,0,none⟩)] w (BoolBelow (isP p f) w):=by
 have hbd:Below w.heap.size w (w.alloc (.cells #[.string f.path,.bool f.exec,.string f.text] 28)):=(Below.refl _ _).alloc (Nat.le_refl _) _
 have h1:(w.alloc (.cells #[.string f.path,.bool f.exec,.string f.text] 28)).cell? ⟨g,0,none⟩=some (.string p):=(hbd.cell (p:=⟨g,0,none⟩) hgl).trans hg
 by_cases h:f.path=p
 ·have HO:=hid (show isP p f=true by simp[isP,h])
  have e1:(f.path.toList == p.toList)=true:=by rw[h];exact beq_self_eq_true _
  clear h
  go_enter Tryz.func128,Tryz.ntmps128
  go_wp2
  go_ret
  exact ⟨aAl HO.out.symm,hbd⟩
 have HO:=hid (show isP p f=false by simp[isP,h])
 have e1:=aBe h
 clear h
 go_enter Tryz.func128,Tryz.ntmps128
 go_wp2
 go_ret
 exact ⟨aAl HO.out.symm,hbd⟩
theorem bHy {A:Option Addr}{n c g:Nat}{l:List FV}{p:ByteArray}{w:World}(hn:n<=17592186044416)(h:RdF w w.heap.size A n c l)(hg:w.cell? ⟨g,0,none⟩=some (.string p))(hgl:g<w.heap.size) :
  Calls Tryz.prog 101 #[.slice A n c,.func (.func 128) #[] #[.pointer (some ⟨g,0,none⟩)]] w (PlaceF (isP p) l w):=by
 have HL:=hid h.len
 go_enter Tryz.func101,Tryz.ntmps101
 go_wp2
 go_loopw[5,8] (fun _ i wr=>∃k:Nat,k<=n/\i=.int .i64 k/\Below w.heap.size w wr/\Hid (∀j g,j<k->l[j]? = some g->(isP p) g=false)) (fun _ i _=>n-(intOf i).toNat)
 case atStart=>exact ⟨0,Nat.zero_le _,rfl,Below.refl _ _,fun j g hj=>absurd hj (Nat.not_lt_zero _)⟩
 obtain ⟨k,hk,rfl,hb,hj⟩:=hrel
 by_cases hlt:k<n
 ·obtain ⟨b0,o0,f,rfl,hbb,hx,hfm,h0,h1,h2⟩:=h.get hlt
  replace h0:=(hb.cell (p:=⟨b0,o0+k*3,none⟩) (by show b0<_;omega)).trans h0
  replace h1:=(hb.cell (p:=⟨b0,o0+k*3+1,none⟩) (by show b0<_;omega)).trans h1
  replace h2:=(hb.cell (p:=⟨b0,o0+k*3+2,none⟩) (by show b0<_;omega)).trans h2
  have HX:=hid hx
  have C:=bHw (f:=f) (w:=wr) ((hb.cell (p:=⟨g,0,none⟩) hgl).trans hg) (Nat.lt_of_lt_of_le hgl hb.size)
  clear hx
  cases hq:(isP p) f with
  | true=>
   rw[hq] at C
   have HQ:=hid (show FirstAt (isP p) l k f from ⟨HX.out,hq,hj.out⟩)
   clear hq
   go_wp2_with fail
   refine C.mono ?_
   rintro e w1 ⟨rfl,hb1⟩
   have hbd:=hb.trans (hb1.mono hb.size)
   clear C
   go_wp2
   go_ret
   exact ⟨k,rfl,.inr ⟨k,f,rfl,HQ.out⟩,hbd⟩
  | false=>
   rw[hq] at C
   have HQ:=hid (show ∀j g,j<k+1->l[j]? = some g->(isP p) g=false from fun j x hj' hx=>by
    by_cases e:j=k
    ·subst e;rw[HX.out] at hx;injection hx with hx;subst hx;exact hq
    exact hj.out j x (by omega) hx)
   clear hq
   go_wp2_with fail
   refine C.mono ?_
   rintro e w1 ⟨rfl,hb1⟩
   have hbd:=hb.trans (hb1.mono hb.size)
   clear C
   go_wp2
   go_roundw
   case rel=>exact ⟨k+1,by omega,by go_num,hbd,HQ.out⟩
   simp[intOf];omega
 have hkn:k=n:=by omega
 subst hkn
 have HO:=hid (show ∀f∈l,(isP p) f=false from fun f hf=>by
  obtain ⟨i,hi,rfl⟩:=List.getElem_of_mem hf
  exact hj.out i _ (by have:=HL.out;omega) (List.getElem?_eq_getElem hi))
 go_wp2
 go_ret
 exact ⟨-1,rfl,.inl ⟨rfl,HO.out⟩,hb⟩
theorem aYr {A:Option Addr}{n c:Nat}{l:List FV}{p:ByteArray}{w:World}(hn:n<=17592186044416)(h:RdF w w.heap.size A n c l) :
  Calls Tryz.prog 89 #[.slice A n c,.string p] w (PlaceF (isP p) l w):=by
 have hb:Below w.heap.size w (w.alloc (.cells #[.string p] 9)):=(Below.refl _ _).alloc (Nat.le_refl _) _
 have hg:(w.alloc (.cells #[.string p] 9)).cell? ⟨w.heap.size,0,none⟩=some (.string p):=(cell_of_row _ _ _ _ _ _ (heap_alloc_new _ _)).trans rfl
 have C:=bHy hn (h.to hb hb.size) hg (by simp)
 go_enter Tryz.func89,Tryz.ntmps89
 go_wp2_with fail
 refine C.mono ?_
 rintro e w1 ⟨k,rfl,h1,hb1⟩
 have H1:=hid h1
 clear h1 C
 go_wp2
 go_ret
 exact ⟨k,rfl,H1.out,hb.trans (hb1.mono hb.size)⟩
theorem aAn {P:Program}{fn:Func}{p u:Tmp}{ty:TypeId}(h:fn.results=#[.cell p ty,.tmp u])(tmps:Array Value)(w:World)(g:Nat)(t:TypeId)(cs:Array Value)(fr:Nat×Nat)(d:TypeDesc)
  (hp:tmps.getD p undef=.pointer (some ⟨g,0,none⟩)) (hg:w.heap[g]? = some (.cells cs t fr))
  (hu:P.underlying ty=some d) (hd:(match d with | .struct _ | .array _ _=>true | _=>false)=true) (hi:(P.info? ty).map (·.size)=some cs.size) :
  (results fn tmps).run P w=.ok (.tuple #[.agg cs,tmps.getD u undef]) w:=by
 rw[results_cell_tmp h,hp]
 simp[asAddr,run_loadVar_row w g t ty cs fr d hg hu hd hi]
def zF:FV:=⟨⟨#[]⟩,false,⟨#[]⟩⟩
def optF (o:Option FV):FV:=o.getD zF
def FoundIs (o:Option FV)(w:World)(e:Ending) (w':World):Prop:=e=.returned (.tuple #[.agg #[.string (optF o).path,.bool (optF o).exec,.string (optF o).text],.bool o.isSome])/\Below w.heap.size w w'
theorem aJd (w:World):(Instr.build 28 #[]).run Tryz.prog w=.ok (.agg #[.string ⟨#[]⟩,.bool false,.string ⟨#[]⟩]) w:=by
 go_simp
theorem aJg {A:Option Addr}{n c:Nat}{l:List FV}{p:ByteArray}{w:World}(hn:n<=17592186044416)(h:RdF w w.heap.size A n c l) :
  Calls Tryz.prog 58 #[.slice A n c,.string p] w (FoundIs (findP l p) w):=by
 have hb:∀o,Below w.heap.size w (w.alloc o):=fun o=>(Below.refl _ _).alloc (Nat.le_refl _) _
 have C:∀o,Calls Tryz.prog 89 #[.slice A n c,.string p] (w.alloc o) (PlaceF (isP p) l (w.alloc o)):=fun o=>aYr hn (h.to (hb o) (hb o).size)
 go_enter Tryz.func58,Tryz.ntmps58
 go_wp2_with fail
 refine (C _).mono ?_
 rintro e w1 ⟨k,rfl,h1,hb1⟩
 have hbd:=(hb _).trans (hb1.mono (hb _).size)
 have hbox:w1.heap[w.heap.size]? = some (.cells #[.string ⟨#[]⟩,.bool false,.string ⟨#[]⟩] 28 (0,0)):=(hb1.block _ (by simp)).trans (heap_alloc_new _ _)
 have HR:=hid (show ∀cs,(w1.setRow w.heap.size cs).heap[w.heap.size]? = some (.cells cs 28 (0,0)) from fun cs=>setRow_heap _ _ _ _ _ _ hbox)
 have hz:=aJd w1
 have hi24:(Tryz.prog.info? 28).map (·.size)=some 3:=by kernel_rfl
 clear C hb1
 rcases h1 with ⟨rfl,hno⟩ | ⟨j,f,rfl,hf⟩
 ·have HO:=hid (aWq (p:=p) hno).1
  have c0:=cell_of_row _ _ 0 _ _ _ (HR.out #[.string ⟨#[]⟩,.bool false,.string ⟨#[]⟩])
  have c1:=cell_of_row _ _ 1 _ _ _ (HR.out #[.string ⟨#[]⟩,.bool false,.string ⟨#[]⟩])
  have c2:=cell_of_row _ _ 2 _ _ _ (HR.out #[.string ⟨#[]⟩,.bool false,.string ⟨#[]⟩])
  clear hno
  go_wp2_with (refine wpList_store_row rfl 28 (.tmp 4) (.tmp 12) rfl w.heap.size #[.string ⟨#[]⟩,.bool false,.string ⟨#[]⟩] rfl rfl _ _ hbox hi24 rfl (by simp[Value.oneCell']) ?_)
  try simp only[Exit.inBlock,Exit.then]
  refine bodyPost_ret (aAn rfl _ _ w.heap.size _ _ (0,0) _ rfl (HR.out _) Tryz.underlying28 rfl (by kernel_rfl)) rfl ?_
  refine ⟨?_,aAk hbd (Nat.le_refl _)⟩
  rw[HO.out];rfl
 have hj:j<n:=by have:=(List.getElem?_eq_some_iff.1 hf.1).1;rw[h.len] at this;exact this
 obtain ⟨b0,o0,f',rfl,hbb,hx,hfm,h0,h1,h2⟩:=h.get hj
 obtain rfl:f'=f:=Option.some.inj (hx.symm.trans hf.1)
 replace h0:=(hbd.cell (p:=⟨b0,o0+j*3,none⟩) (by show b0<_;omega)).trans h0
 replace h1:=(hbd.cell (p:=⟨b0,o0+j*3+1,none⟩) (by show b0<_;omega)).trans h1
 replace h2:=(hbd.cell (p:=⟨b0,o0+j*3+2,none⟩) (by show b0<_;omega)).trans h2
 have HO:=hid (show findP l p=some f' from FirstAt.find hf)
 have c0:=cell_of_row _ _ 0 _ _ _ (HR.out #[.string f'.path,.bool f'.exec,.string f'.text])
 have c1:=cell_of_row _ _ 1 _ _ _ (HR.out #[.string f'.path,.bool f'.exec,.string f'.text])
 have c2:=cell_of_row _ _ 2 _ _ _ (HR.out #[.string f'.path,.bool f'.exec,.string f'.text])
 clear hx hf hz
 go_wp2_with (refine wpList_store_row rfl 28 (.tmp 4) (.tmp 16) rfl w.heap.size #[.string f'.path,.bool f'.exec,.string f'.text] rfl rfl _ _ hbox hi24 rfl (by simp[Value.oneCell']) ?_)
 try simp only[Exit.inBlock,Exit.then]
 refine bodyPost_ret (aAn rfl _ _ w.heap.size _ _ (0,0) _ rfl (HR.out _) Tryz.underlying28 rfl (by kernel_rfl)) rfl ?_
 refine ⟨?_,aAk hbd (Nat.le_refl _)⟩
 rw[HO.out];rfl
theorem aCm:Elem Tryz.prog 22 28 3 40:=aCw (by kernel_rfl)
theorem aBi (l:List FV):∀u∈l.flatMap FV.cells,u.oneCell'=true:=by
 intro u hu
 obtain ⟨f,_,hf⟩:=List.mem_flatMap.1 hu
 simp only[FV.cells,List.mem_cons,List.mem_nil_iff,or_false] at hf
 rcases hf with rfl | rfl | rfl<;>rfl
theorem aHx {w w':World}(h:w.grownBy w' none):Below w.heap.size w w':=⟨h.os,h.tape,h.output,h.size,fun k hk=>h.block k hk (by simp)⟩
theorem aMk (w:World)(f:FV):Rd (w.alloc (.cells #[.string f.path,.bool f.exec,.string f.text] 28)) (w.alloc (.cells #[.string f.path,.bool f.exec,.string f.text] 28)).heap.size 3 (some ⟨w.heap.size,0,none⟩) 1 1 ([f].flatMap FV.cells):=
 ⟨rfl,Nat.le_refl _,fun _=>⟨_,0,rfl,by simp,fun j u hu=>by
  rw[Nat.zero_add,World.cell?,heap_alloc_new]
  simpa[FV.cells] using hu⟩⟩
theorem T.flat_take {α:Type}{f:α->List Value}{sz:Nat}(hf:∀a,(f a).length=sz):∀(l:List α)(k:Nat),(l.flatMap f).take (k*sz)=(l.take k).flatMap f
 | [],k=>by simp
 | x::l,0=>by simp
 | x::l,k+1=>by
  rw[List.flatMap_cons,List.take_succ_cons,List.flatMap_cons,Nat.succ_mul,Nat.add_comm,List.take_append,hf,List.take_of_length_le (by rw[hf];omega),show sz+k*sz-sz=k*sz by omega,T.flat_take hf l k]
theorem T.flat_drop {α:Type}{f:α->List Value}{sz:Nat}(hf:∀a,(f a).length=sz):∀(l:List α)(k:Nat),(l.flatMap f).drop (k*sz)=(l.drop k).flatMap f
 | [],k=>by simp
 | x::l,0=>by simp
 | x::l,k+1=>by
  rw[List.flatMap_cons,List.drop_succ_cons,Nat.succ_mul,Nat.add_comm,List.drop_append,hf,List.drop_of_length_le (by rw[hf];omega),List.nil_append,show sz+k*sz-sz=k*sz by omega,T.flat_drop hf l k]
theorem aZv {w:World}{B n c l k:Nat}{A:Option Addr}{xs:List FV}(h:Rd w B 3 A n c (xs.flatMap FV.cells))(hl:l<=k)(hk:k<=n) :
  ∃A',sliced A l k c 3=.slice A' (k-l) (c-l)/\Rd w B 3 A' (k-l) (c-l) (((xs.take k).drop l).flatMap FV.cells):=by
 refine ⟨_,rfl,?_⟩
 have:=h.cut hl hk
 rw[T.flat_take FV.cells_len,T.flat_drop FV.cells_len] at this
 exact this
theorem T.run_lits3 {P:Program}{t e:TypeId}{bytes:Nat}(E:Elem P t e 3 bytes)(a b c:Value)(w:World) :
  (Instr.buildSlice t 1 #[(0,.agg #[a,b,c])]).run P w=.ok (.slice (some ⟨w.heap.size,0,none⟩) 1 1) (w.alloc (.cells #[a,b,c] e)):=by
 obtain ⟨i,z,hi,hz,hsz,hby,hzs⟩:=E.row
 obtain ⟨z0,z1,z2,hzc⟩:∃z0 z1 z2,z.cells=#[z0,z1,z2]:=by
  have:=hzs
  match h:z.cells,this with
  | ⟨[z0,z1,z2]⟩,_=>exact ⟨z0,z1,z2,rfl⟩
 simp[Instr.buildSlice,run_underlying E.und,sizeOf,typeInfo,hi,hsz,zeroValue,hz,Instr.fill,Value.cells,newRow,show Array.range 3=#[0,1,2] from rfl]
theorem T.run_lits4 {P:Program}{t e:TypeId}{bytes:Nat}(E:Elem P t e 4 bytes)(a b c d:Value)(w:World) :
  (Instr.buildSlice t 1 #[(0,.agg #[a,b,c,d])]).run P w=.ok (.slice (some ⟨w.heap.size,0,none⟩) 1 1) (w.alloc (.cells #[a,b,c,d] e)):=by
 obtain ⟨i,z,hi,hz,hsz,hby,hzs⟩:=E.row
 obtain ⟨z0,z1,z2,z3,hzc⟩:∃z0 z1 z2 z3,z.cells=#[z0,z1,z2,z3]:=by
  have:=hzs
  match h:z.cells,this with
  | ⟨[z0,z1,z2,z3]⟩,_=>exact ⟨z0,z1,z2,z3,rfl⟩
 simp[Instr.buildSlice,run_underlying E.und,sizeOf,typeInfo,hi,hsz,zeroValue,hz,Instr.fill,Value.cells,newRow,show Array.range 4=#[0,1,2,3] from rfl]
theorem T.eff_lits {P:Program}{S:World->Prop}{a:Act} {w w':World}{K:Act->World->Prop}{dst:Option Tmp}{t ty:TypeId}{x:Operand}{q:Bool}{g:Option (Tmp×Bool)}{v r:Value}
  (hr:(Instr.buildSlice t 1 #[(0,v)]).run P w=.ok r w') (hx:a.eval x=v) (hK:S w'/\K (a.put dst r) w') :
  effq P S ⟨q,dst,.buildSlice t 1 #[(0,x)],ty,g⟩ a w K:=by
 refine aOy (fun p af g=>?_) hK
 unfold execOp
 simp only[List.map_toArray,List.map_cons,List.map_nil,hx,hr,Sem.run_bind,Sem.run_pure,Result.andThen_ok]
def FilesIs (P:List FV->Prop)(w:World)(e:Ending) (w':World):Prop:=
 ∃(A:Option Addr) (c:Nat) (l:List FV),e=.returned (.slice A l.length c)/\P l/\RdF w' w'.heap.size A l.length c l/\Below w.heap.size w w'
theorem aDy {A:Option Addr}{n c:Nat}{l:List FV}{p:ByteArray}{w:World}(hn:n<=17592186044416)(h:RdF w w.heap.size A n c l) :
  Calls Tryz.prog 20 #[.slice A n c,.string p] w (FoundIs (findP l p) w):=by
 have HL:=hid h.len
 obtain ⟨W,hW⟩:∃u,u=w.alloc (.cells #[.string ⟨#[]⟩,.bool false,.string ⟨#[]⟩] 28):=⟨_,rfl⟩
 have hbW:Below w.heap.size w W:=by rw[hW];exact (Below.refl _ _).alloc (Nat.le_refl _) _
 have hzW:W.heap.size=w.heap.size+1:=by rw[hW];simp
 have hbx:W.heap[w.heap.size]? = some (.cells #[.string ⟨#[]⟩,.bool false,.string ⟨#[]⟩] 28 (0,0)):=by rw[hW];exact heap_alloc_new _ _
 have HX:=hid hbx
 have hi24:(Tryz.prog.info? 28).map (·.size)=some 3:=by kernel_rfl
 clear hbx
 go_enter Tryz.func20,Tryz.ntmps20
 go_wp2
 rw[<-hW]
 clear hW
 go_loopw[6] (fun i wr=>∃k:Nat,k<=n/\i=.int .i64 k/\Below W.heap.size W wr/\Hid (∀j g,j<k->l[j]? = some g->isP p g=false)) (fun i _=>n-(intOf i).toNat)
 case atStart=>exact ⟨0,Nat.zero_le _,rfl,Below.refl _ _,fun j g hj=>absurd hj (Nat.not_lt_zero _)⟩
 obtain ⟨k,hk,rfl,hb,hj⟩:=hrel
 have hbr:Below w.heap.size w wr:=hbW.trans (hb.mono hbW.size)
 have hbox:wr.heap[w.heap.size]? = some (.cells #[.string ⟨#[]⟩,.bool false,.string ⟨#[]⟩] 28 (0,0)):=(hb.block _ (by omega)).trans HX.out
 have HR:=hid (show ∀cs,(wr.setRow w.heap.size cs).heap[w.heap.size]? = some (.cells cs 28 (0,0)) from fun cs=>setRow_heap _ _ _ _ _ _ hbox)
 by_cases hlt:k<n
 ·obtain ⟨b0,o0,f,rfl,hbb,hx,hfm,h0,h1,h2⟩:=h.get hlt
  replace h0:=(hbr.cell (p:=⟨b0,o0+k*3,none⟩) (by show b0<_;omega)).trans h0
  replace h1:=(hbr.cell (p:=⟨b0,o0+k*3+1,none⟩) (by show b0<_;omega)).trans h1
  replace h2:=(hbr.cell (p:=⟨b0,o0+k*3+2,none⟩) (by show b0<_;omega)).trans h2
  by_cases hq:f.path=p
  ·have HO:=hid (show findP l p=some f from FirstAt.find ⟨hx,by simp[hq],hj.out⟩)
   have e1:(f.path.toList == p.toList)=true:=by rw[hq];exact beq_self_eq_true _
   clear hx hj hq
   go_wp2_with (refine wpList_store_row rfl 28 (.tmp 4) (.tmp 23) rfl w.heap.size #[.string f.path,.bool f.exec,.string f.text] rfl rfl _ _ hbox hi24 rfl (by simp[Value.oneCell']) ?_)
   try simp only[Exit.inBlock,Exit.then]
   refine bodyPost_ret (aAn rfl _ _ w.heap.size _ _ (0,0) _ rfl (HR.out _) Tryz.underlying28 rfl (by kernel_rfl)) rfl ?_
   refine ⟨?_,aAk hbr (Nat.le_refl _)⟩
   rw[HO.out];rfl
  have e1:=aBe hq
  have HQ:=hid (show ∀j g,j<k+1->l[j]? = some g->isP p g=false from fun j x hj' hx'=>by
   by_cases e:j=k
   ·subst e;rw[hx] at hx';injection hx' with hx';subst hx';simp[isP,hq]
   exact hj.out j x (by omega) hx')
  clear hx hq
  go_wp2
  go_roundw
  case rel=>exact ⟨k+1,by omega,by go_num,hb,HQ.out⟩
  simp[intOf];omega
 have hkn:k=n:=by omega
 subst hkn
 have HO:=hid (show findP l p=none from (aWq fun f hf=>by
  obtain ⟨i,hi,rfl⟩:=List.getElem_of_mem hf
  exact hj.out i _ (by have:=HL.out;omega) (List.getElem?_eq_getElem hi)).1)
 have hz:=aJd wr
 clear hj
 go_wp2_with (refine wpList_store_row rfl 28 (.tmp 4) (.tmp 24) rfl w.heap.size #[.string ⟨#[]⟩,.bool false,.string ⟨#[]⟩] rfl rfl _ _ hbox hi24 rfl (by simp[Value.oneCell']) ?_)
 try simp only[Exit.inBlock,Exit.then]
 refine bodyPost_ret (aAn rfl _ _ w.heap.size _ _ (0,0) _ rfl (HR.out _) Tryz.underlying28 rfl (by kernel_rfl)) rfl ?_
 refine ⟨?_,aAk hbr (Nat.le_refl _)⟩
 rw[HO.out];rfl
theorem aUm {A:Option Addr}{n c:Nat}{l:List FV}{p:ByteArray}{w:World}(hn:n<=1000000)(h:RdF w w.heap.size A n c l) :
  Calls Tryz.prog 47 #[.slice A n c,.string p] w (FilesIs (·=without l p) w):=by
 have HL:=hid h.len
 have HF:=hid h.fits
 go_enter Tryz.func47,Tryz.ntmps47
 go_wp2
 go_loopw[5,6] (fun lv i wr=>∃(k m:Nat),k<=n/\i=.int .i64 k/\Below w.heap.size w wr/\m<=k/\Hid ((without (l.take k) p).length=m)/\wr.ownsRow w.heap.size 28 3 lv m ((without (l.take k) p).flatMap FV.cells)) (fun _ i _=>n-(intOf i).toNat)
 case atStart=>exact ⟨0,0,Nat.zero_le _,rfl,Below.refl _ _,Nat.le_refl _,by rw[List.take_zero];exact rfl,by rw[List.take_zero];exact World.ownsRow_nil _ _ _ _⟩
 obtain ⟨k,m,hk,rfl,hb,hmk,hm,ho⟩:=hrel
 by_cases hlt:k<n
 ·obtain ⟨b0,o0,f,rfl,hbb,hx,hfm,h0,h1,h2⟩:=h.get hlt
  replace h0:=(hb.cell (p:=⟨b0,o0+k*3,none⟩) (by show b0<_;omega)).trans h0
  replace h1:=(hb.cell (p:=⟨b0,o0+k*3+1,none⟩) (by show b0<_;omega)).trans h1
  replace h2:=(hb.cell (p:=⟨b0,o0+k*3+2,none⟩) (by show b0<_;omega)).trans h2
  by_cases hq:f.path=p
  ·have e1:(f.path.toList == p.toList)=true:=by rw[hq];exact beq_self_eq_true _
   have HW:=hid (show without (l.take (k+1)) p=without (l.take k) p by rw[List.take_add_one,hx,without,List.filter_append];simp[hq,without])
   clear hx hq
   go_wp2
   go_roundw
   case rel=>exact ⟨k+1,m,by omega,by go_num,hb,by omega,by rw[HW.out];exact hm,by rw[HW.out];exact ho⟩
   simp[intOf];omega
  have e1:=aBe hq
  have HW:=hid (show without (l.take (k+1)) p=without (l.take k) p++[f] by rw[List.take_add_one,hx,without,List.filter_append];simp[hq,without])
  have hb1:=hb.alloc hb.size (.cells #[.string f.path,.bool f.exec,.string f.text] 28)
  have ho1:=ho.alloc (.cells #[.string f.path,.bool f.exec,.string f.text] 28)
  clear hx hq
  go_wp2_with (at_builtin;refine aAm rfl (.tmp 20) (.tmp 25) 22 rfl aCm rfl rfl ho1 (aMk wr f) (aBi _) (by unfold maxLen;omega) (by omega) hb1.size ?_;intro v7 w7 ho7 hg7 hv7)
  go_roundw
  case rel=>
   refine ⟨k+1,m+1,by omega,by go_num,hb1.grown hg7 hb1.size (fun g hg=>(ho1.lt g hg).1),by omega,?_,?_⟩
   ·show (without (l.take (k+1)) p).length=m+1
    rw[HW.out,List.length_append,hm.out];rfl
   rw[HW.out,List.flatMap_append];exact ho7
  simp[intOf];omega
 have hkn:k=n:=by omega
 subst hkn
 rw[List.take_of_length_le (by rw[HL.out];omega)] at hm ho
 go_wp2
 go_ret
 obtain ⟨A7,c7,rfl,hc7⟩:=aAg ho
 have hr:=Rd.of_own ho hc7
 rw[<-hm.out] at hr ⊢
 exact ⟨A7,c7,_,rfl,rfl,⟨hr,rfl,fun x hx=>HF.out x ((List.mem_filter.1 hx).1)⟩,hb⟩
theorem aLa {A:Option Addr}{n c:Nat}{l:List FV}{p:ByteArray}{w:World}(hn:n<=17592186044416)(hp:p.size<=maxLen)(h:RdF w w.heap.size A n c l) :
  Calls Tryz.prog 48 #[.slice A n c,.string p] w (BoolBelow (clashF l p) w):=by
 have HL:=hid h.len
 go_enter Tryz.func48,Tryz.ntmps48
 go_wp2
 go_loopw[5] (fun i wr=>∃k:Nat,k<=n/\i=.int .i64 k/\Below w.heap.size w wr/\Hid (clashF (l.take k) p=false)) (fun i _=>n-(intOf i).toNat)
 case atStart=>exact ⟨0,Nat.zero_le _,rfl,Below.refl _ _,by rw[List.take_zero];exact rfl⟩
 obtain ⟨k,hk,rfl,hb,hj⟩:=hrel
 by_cases hlt:k<n
 ·obtain ⟨b0,o0,f,rfl,hbb,hx,hfm,h0,h1,h2⟩:=h.get hlt
  replace h0:=(hb.cell (p:=⟨b0,o0+k*3,none⟩) (by show b0<_;omega)).trans h0
  have hfit:=(h.fits f hfm).1
  clear h1 h2
  have HN:=hid (show clashF (l.take (k+1)) p=(clashF (l.take k) p || (!decide (f.path=p) && clashP f.p p.data.toList)) by rw[List.take_add_one,hx];simp[clashF])
  by_cases hq:f.path=p
  ·have e1:(f.path.toList == p.toList)=true:=by rw[hq];exact beq_self_eq_true _
   have HO:=hid (show clashF (l.take (k+1)) p=false by rw[HN.out,hj.out,hq];simp)
   clear hx hq
   go_wp2
   go_roundw
   case rel=>exact ⟨k+1,by omega,by go_num,hb,HO.out⟩
   simp[intOf];omega
  have e1:=aBe hq
  have C:=aPa (p:=f.path) (d:=p) (w:=wr) (by unfold maxLen;omega) hp
  cases hc:clashP f.path.data.toList p.data.toList with
  | true=>
   rw[hc] at C
   have HO:=hid (show clashF l p=true by
    simp only[clashF,List.any_eq_true,Bool.and_eq_true]
    exact ⟨f,hfm,by simp[hq],hc⟩)
   clear hx hq hc
   go_wp2_with fail
   refine C.mono ?_
   rintro e w1 ⟨rfl,rfl⟩
   clear C
   go_wp2
   go_ret
   exact ⟨aAl HO.out.symm,hb⟩
  | false=>
   rw[hc] at C
   have HO:=hid (show clashF (l.take (k+1)) p=false by rw[HN.out,hj.out,FV.p,hc];simp)
   clear hx hq hc
   go_wp2_with fail
   refine C.mono ?_
   rintro e w1 ⟨rfl,rfl⟩
   clear C
   go_wp2
   go_roundw
   case rel=>exact ⟨k+1,by omega,by go_num,hb,HO.out⟩
   simp[intOf];omega
 have hkn:k=n:=by omega
 subst hkn
 have HO:=hid (show clashF l p=false by have:=hj.out;rwa [List.take_of_length_le (by rw[HL.out];omega)] at this)
 go_wp2
 go_ret
 exact ⟨aAl HO.out.symm,hb⟩
def NewAt (A:Option Addr)(B:Nat):Prop:=∀b o s,A=some ⟨b,o,s⟩->B<=b
theorem NewAt.none_ (B:Nat):NewAt none B:=fun _ _ _ h=>by cases h
def FilesIsN (P:List FV->Prop)(w:World)(e:Ending) (w':World):Prop:=
 ∃(A:Option Addr) (c:Nat) (l:List FV),e=.returned (.slice A l.length c)/\P l/\RdF w' w'.heap.size A l.length c l/\Below w.heap.size w w'/\NewAt A w.heap.size
theorem FilesIsN.old {P:List FV->Prop} {w w':World}{e:Ending}(h:FilesIsN P w e w'):FilesIs P w e w':=by
 obtain ⟨A,c,l,h1,h2,h3,h4,_⟩:=h
 exact ⟨A,c,l,h1,h2,h3,h4⟩
theorem aGe {A:Option Addr}{n c:Nat}{l:List FV}{f:FV}{w:World}(hn:n<=1000000)(h:RdF w w.heap.size A n c l)(hff:f.path.size<=140737488351232/\f.text.size<=140737488351232) :
  Calls Tryz.prog 49 #[.slice A n c,.agg #[.string f.path,.bool f.exec,.string f.text]] w (FilesIsN (·=sortedIn l f) w):=by
 have HL:=hid h.len
 have HF:=hid h.fits
 have hcap:=h.row.cap
 obtain ⟨W,hW⟩:∃u,u=w.alloc (.cells #[.string f.path,.bool f.exec,.string f.text] 28):=⟨_,rfl⟩
 have hbW:Below w.heap.size w W:=by rw[hW];exact (Below.refl _ _).alloc (Nat.le_refl _) _
 have hzW:W.heap.size=w.heap.size+1:=by rw[hW];simp
 have hx:∀i u,f.cells[i]? = some u->∀u',Below W.heap.size W u'->u'.cell? ⟨w.heap.size,i,none⟩=some u:=fun i u hu u' hu'=>
  (hu'.cell (p:=⟨w.heap.size,i,none⟩) (by show w.heap.size<_;omega)).trans (by rw[hW,World.cell?,heap_alloc_new];simpa[FV.cells] using hu)
 have XB:=hid hx
 clear hx
 have hR:=h.row.to hbW hbW.size
 go_enter Tryz.func49,Tryz.ntmps49
 go_wp2
 rw[<-hW]
 clear hW
 rename_i K hK
 have TAIL:∀(wr:World) (k:Nat) (u6 u7 u8 u9 u10 u11 u12 u13 u14 u15 u16 u17 u18 u19 u20 u21:Value),k<=n->Below W.heap.size W wr->Hid (sortedIn l f=l.take k++f::l.drop k)->K ⟨#[.slice A n c,.agg #[.string f.path,.bool f.exec,.string f.text],undef,.pointer (some ⟨w.heap.size,0,none⟩),.slice none 0 0,.int .i64 k,u6,u7,u8,u9,u10,u11,u12,u13,u14,u15,u16,u17,u18,u19,u20,u21,undef,undef,undef,undef,undef,undef,undef,undef,undef,undef,undef],[]⟩ wr:=by
  intro wr k u6 u7 u8 u9 u10 u11 u12 u13 u14 u15 u16 u17 u18 u19 u20 u21 hk hbr HP
  refine hK _ _ ?_
  clear hK
  have HR:=hid (hR.below hbr)
  go_wp2
  refine aAw (fun v'=>Below W.heap.size W v') (.q 0 (.q 1 (.q 2 (.q 4 (.q 7 (.q 8 (.q 9 (.two 3 (.one 5 (.one 6 (.one 10 (.q 11 .leaf)))) 5 (.one 3 (.one 6 (.one 10 (.q 11 .leaf)))))))))))) mixed (by kernel_rfl) hbr.drew ?_
  intro Tp M Q hT hT' hM hQ
  have m0:M ⟨w.heap.size,0,none⟩=some (.string f.path):=hM _ _ fun w' hw=>XB.out 0 _ rfl w' hw
  have m1:M ⟨w.heap.size,1,none⟩=some (.bool f.exec):=hM _ _ fun w' hw=>XB.out 1 _ rfl w' hw
  have m2:M ⟨w.heap.size,2,none⟩=some (.string f.text):=hM _ _ fun w' hw=>XB.out 2 _ rfl w' hw
  clear hM
  refine aDf ?_
  intro O hO
  have t0:=hO true 0
  have t1:=hO true 1
  have t2:=hO true 2
  have t4:=hO true 4
  have t7:=hO true 7
  have t8:=hO true 8
  have t9:=hO true 9
  have t11:=hO true 11
  have e3:=hO false 3
  have e5:=hO false 5
  have e6:=hO false 6
  have e10:=hO false 10
  simp only[qcmp] at t0 t1 t2 t4 t7 t8 t9 t11 e3 e5 e6 e10
  clear hO
  simp (maxSteps:=9^7) only[↓wt_q,↓aBc,t0,t1,t2,t4,t7,t8,t9,e3,e5,↓qpre,aAb,aAf,aAc,m0,m1,m2]
  clear t0 t1 t2 t4 t7 t8 t9 m0 m1 m2
  have hrd:=HR.out.drew
  have hbd:Below W.heap.size W wr.drew:=hbr.drew
  clear hbr
  generalize wr.drew=w1 at *
  obtain ⟨A1,q1,r1⟩:=aZv hrd (l:=0) (k:=k) (by omega) hk
  obtain ⟨A2,q2,r2⟩:=aZv hrd (l:=k) (k:=n) hk (Nat.le_refl _)
  rw[q1,q2]
  rw[Nat.sub_zero,List.drop_zero] at r1
  rw[List.take_of_length_le (by rw[HL.out];omega)] at r2
  clear q1 q2 hrd
  have hbs:=hbd.size
  simp only[Nat.sub_zero]
  refine ⟨⟨by omega,by omega⟩,⟨by omega,by omega⟩,?_,?_⟩
  ·refine aAo aCm (base:=W.heap.size) (n:=0) (xs:=[]) rfl rfl (World.ownsRow_nil _ _ _ _) r1 (aBi _) (by simp only[maxLen];omega) (by omega) hbs ?_
   intro v1 w2 ho1 hg1 _
   rw[Nat.zero_add,List.nil_append] at ho1
   have hb2:=hbd.grown hg1 hbs (fun g hg=>by cases hg)
   replace r2:=r2.below (aHx (w:=w1) (w':=w2) hg1 |>.mono hbs)
   refine ⟨hT _ hb2,?_⟩
   simp (maxSteps:=9^7) only[↓aAj,e5,aAb,aAc]
   refine T.eff_lits (T.run_lits3 aCm (.string f.path) (.bool f.exec) (.string f.text) _) rfl ⟨hT _ (hb2.alloc hb2.size _),?_⟩
   have ho1':=ho1.alloc (.cells #[.string f.path,.bool f.exec,.string f.text] 28)
   have hv:=aMk w2 f
   have hb3:=hb2.alloc hb2.size (.cells #[.string f.path,.bool f.exec,.string f.text] 28)
   replace r2:=r2.below ((Below.refl w2.heap.size w2).alloc (Nat.le_refl _) (.cells #[.string f.path,.bool f.exec,.string f.text] 28) |>.mono hb2.size)
   clear ho1 hg1 hb2 r1 hbd hbs
   simp (maxSteps:=9^7) only[↓aAj,e6,aAb,aAc]
   generalize w2.alloc (.cells #[.string f.path,.bool f.exec,.string f.text] 28)=w3 at *
   refine aAo aCm (base:=W.heap.size) (n:=k) rfl rfl ho1' hv (aBi _) (by simp only[maxLen];omega) (by omega) hb3.size ?_
   intro v4 w4 ho4 hg4 _
   have hb4:=hb3.grown hg4 hb3.size (fun g hg=>(ho1'.lt g hg).1)
   replace r2:=r2.grown hg4 hb3.size (fun g hg=>(ho1'.lt g hg).1)
   refine ⟨hT _ hb4,?_⟩
   simp (maxSteps:=9^7) only[↓aAj,e10,aAb,aAc]
   refine aAo aCm (base:=W.heap.size) (n:=k+1) rfl rfl ho4 r2 (aBi _) (by simp only[maxLen];omega) (by omega) hb4.size ?_
   intro v5 w5 ho5 hg5 _
   have hb5:=hb4.grown hg5 hb4.size (fun g hg=>(ho4.lt g hg).1)
   refine ⟨hT _ hb5,?_⟩
   simp (maxSteps:=9^7) only[↓aCy,↓wt_q,t11,↓qpre,aAb,aAc]
   refine hQ _ _ ?_
   have HB:=hid hb5
   have HO:=hid ho5
   clear hQ hT hT' t11 e3 e5 e6 e10 ho1' hv hb3 ho4 hg4 hb4 r2 hb5 ho5 hg5
   try clear x0
   go_wp2
   go_ret
   obtain ⟨A5,c5,rfl,hc5⟩:=aAg HO.out
   have hr5:=Rd.of_own HO.out hc5
   rw[<-List.flatMap_append,<-List.flatMap_append] at hr5
   have hll:(l.take k++[f]++l.drop k).length=k+1+(n-k):=by rw[List.length_append,List.length_append,List.length_take,List.length_drop,HL.out,Nat.min_eq_left hk];rfl
   rw[<-hll] at hr5 ⊢
   refine ⟨A5,c5,_,rfl,?_,⟨hr5,rfl,fun x hx=>?_⟩,hbW.trans (HB.out.mono (by omega)),fun b o s hA=>by have:=(HO.out.lt b (by rw[hA];rfl)).1;omega⟩
   ·rw[HP.out];simp
   simp only[List.mem_append,List.mem_singleton] at hx
   rcases hx with (hx | rfl) | hx
   ·exact HF.out x (List.mem_of_mem_take hx)
   ·exact hff
   exact HF.out x (List.mem_of_mem_drop hx)
  refine T.eff_lits (T.run_lits3 aCm (.string f.path) (.bool f.exec) (.string f.text) _) rfl ⟨hT _ (hbd.alloc hbs _),?_⟩
  have hv0:=aMk w1 f
  have hb2:=hbd.alloc hbs (.cells #[.string f.path,.bool f.exec,.string f.text] 28)
  replace r1:=r1.below ((Below.refl w1.heap.size w1).alloc (Nat.le_refl _) (.cells #[.string f.path,.bool f.exec,.string f.text] 28) |>.mono hbs)
  replace r2:=r2.below ((Below.refl w1.heap.size w1).alloc (Nat.le_refl _) (.cells #[.string f.path,.bool f.exec,.string f.text] 28) |>.mono hbs)
  simp (maxSteps:=9^7) only[↓aAj,e3,aAb,aAc]
  generalize w1.alloc (.cells #[.string f.path,.bool f.exec,.string f.text] 28)=w2 at *
  have hbs2:=hb2.size
  refine aAo aCm (base:=W.heap.size) (n:=0) (xs:=[]) rfl rfl (World.ownsRow_nil _ _ _ _) r1 (aBi _) (by simp only[maxLen];omega) (by omega) hbs2 ?_
  intro v1 w3 ho1' hg1 _
  rw[Nat.zero_add,List.nil_append] at ho1'
  have hb3:=hb2.grown hg1 hbs2 (fun g hg=>by cases hg)
  have hgb:=aHx (w:=w2) (w':=w3) hg1
  replace r2:=r2.below (hgb.mono hbs2)
  have hv:=hv0.below hgb
  clear hv0 hg1 hb2 r1 hbd hbs hbs2 hgb
  refine ⟨hT _ hb3,?_⟩
  simp (maxSteps:=9^7) only[↓aAj,e6,aAb,aAc]
  refine aAo aCm (base:=W.heap.size) (n:=k) rfl rfl ho1' hv (aBi _) (by simp only[maxLen];omega) (by omega) hb3.size ?_
  intro v4 w4 ho4 hg4 _
  have hb4:=hb3.grown hg4 hb3.size (fun g hg=>(ho1'.lt g hg).1)
  replace r2:=r2.grown hg4 hb3.size (fun g hg=>(ho1'.lt g hg).1)
  refine ⟨hT _ hb4,?_⟩
  simp (maxSteps:=9^7) only[↓aAj,e10,aAb,aAc]
  refine aAo aCm (base:=W.heap.size) (n:=k+1) rfl rfl ho4 r2 (aBi _) (by simp only[maxLen];omega) (by omega) hb4.size ?_
  intro v5 w5 ho5 hg5 _
  have hb5:=hb4.grown hg5 hb4.size (fun g hg=>(ho4.lt g hg).1)
  refine ⟨hT _ hb5,?_⟩
  simp (maxSteps:=9^7) only[↓aCy,↓wt_q,t11,↓qpre,aAb,aAc]
  refine hQ _ _ ?_
  have HB:=hid hb5
  have HO:=hid ho5
  clear hQ hT hT' t11 e3 e5 e6 e10 ho1' hv hb3 ho4 hg4 hb4 r2 hb5 ho5 hg5
  try clear x0
  go_wp2
  go_ret
  obtain ⟨A5,c5,rfl,hc5⟩:=aAg HO.out
  have hr5:=Rd.of_own HO.out hc5
  rw[<-List.flatMap_append,<-List.flatMap_append] at hr5
  have hll:(l.take k++[f]++l.drop k).length=k+1+(n-k):=by rw[List.length_append,List.length_append,List.length_take,List.length_drop,HL.out,Nat.min_eq_left hk];rfl
  rw[<-hll] at hr5 ⊢
  refine ⟨A5,c5,_,rfl,?_,⟨hr5,rfl,fun x hx=>?_⟩,hbW.trans (HB.out.mono (by omega)),fun b o s hA=>by have:=(HO.out.lt b (by rw[hA];rfl)).1;omega⟩
  ·rw[HP.out];simp
  simp only[List.mem_append,List.mem_singleton] at hx
  rcases hx with (hx | rfl) | hx
  ·exact HF.out x (List.mem_of_mem_take hx)
  ·exact hff
  exact HF.out x (List.mem_of_mem_drop hx)
 clear hK
 go_loopw[5] (fun i wr=>∃k:Nat,k<=n/\i=.int .i64 k/\Below W.heap.size W wr/\Hid (∀j g,j<k->l[j]? = some g->g.p<f.p)) (fun i _=>n-(intOf i).toNat)
 case atStart=>exact ⟨0,Nat.zero_le _,rfl,Below.refl _ _,fun j g hj=>absurd hj (Nat.not_lt_zero _)⟩
 obtain ⟨k,hk,rfl,hb,hj⟩:=hrel
 have hbr:Below w.heap.size w wr:=hbW.trans (hb.mono hbW.size)
 have CUT:(∀g,l[k]? = some g->¬g.p<f.p)->Hid (sortedIn l f=l.take k++f::l.drop k):=fun hn=>by
  show sortedIn l f=_
  conv=>lhs;rw[<-List.take_append_drop k l]
  refine aTl (fun x hx=>?_) fun x hx=>hn x (by rwa [List.getElem?_drop,Nat.add_zero] at hx)
  obtain ⟨j,hj',e⟩:=List.getElem_of_mem hx
  rw[List.length_take] at hj'
  rw[List.getElem_take] at e
  exact hj.out j x (by omega) (by rw[<-e];exact List.getElem?_eq_getElem _)
 by_cases hlt:k<n
 ·obtain ⟨b0,o0,g,rfl,hbb,hx,hfm,h0,_,_⟩:=h.get hlt
  replace h0:=(hbr.cell (p:=⟨b0,o0+k*3,none⟩) (by show b0<_;omega)).trans h0
  go_wp2
  refine aAd (fun w'=>Below W.heap.size W w') (qs 14) mixed (by kernel_rfl) hb.drew ?_
  have hbd:=hb.drew
  intro Tp M Q hT hT' hM hQ
  have m0:M ⟨b0,o0+k*3,none⟩=some (.string g.path):=hM _ _ fun w' hw=>((hbW.trans (hw.mono hbW.size)).cell (p:=⟨b0,o0+k*3,none⟩) (by show b0<_;omega)).trans ((hbr.cell (p:=⟨b0,o0+k*3,none⟩) (by show b0<_;omega)).symm.trans h0)
  have mb:M ⟨w.heap.size,0,none⟩=some (.string f.path):=hM _ _ fun w' hw=>XB.out 0 _ rfl w' hw
  simp only[qcmp]
  have hk1:decide ((k:Int)<n)=true:=decide_eq_true (by omega)
  by_cases hq:g.path.data.toList<f.path.data.toList
  ·have hl:=(aNx g.path f.path).trans (decide_eq_true hq)
   have HQ:=hid (show ∀j x,j<k+1->l[j]? = some x->x.p<f.p from fun j x hj' hx'=>by
    by_cases e:j=k
    ·subst e;rw[hx] at hx';injection hx' with hx';subst hx';exact hq
    exact hj.out j x (by omega) hx')
   clear hq hx CUT
   simp (maxSteps:=9^7) only[↓qpre,aAb,aAf,aAc,m0,mb,hk1,hl]
   refine ⟨⟨by omega,by omega⟩,hQ _ _ ?_⟩
   clear hQ hT hT' hM m0 mb hl TAIL
   go_wp2
   go_roundw
   case rel=>exact ⟨k+1,by omega,by go_num,hbd,HQ.out⟩
   simp[intOf];omega
  have hl:=(aNx g.path f.path).trans (decide_eq_false hq)
  have HC:=CUT (fun x hx'=>by rw[hx] at hx';injection hx' with hx';subst hx';exact hq)
  clear hq hx CUT
  simp (maxSteps:=9^7) only[↓qpre,aAb,aAf,aAc,m0,mb,hk1,hl]
  refine ⟨⟨by omega,by omega⟩,hQ _ _ ?_⟩
  clear hQ hT hT' hM m0 mb hl
  go_wp2
  exact TAIL _ k _ _ _ _ _ _ _ _ _ _ _ _ _ _ _ _ hk hbd HC
 have hkn:k=n:=by omega
 subst hkn
 have HC:=CUT (fun x hx'=>by have:=(List.getElem?_eq_some_iff.1 hx').1;rw[HL.out] at this;omega)
 clear CUT
 go_wp2
 refine aAd (fun w'=>Below W.heap.size W w') (qs 14) mixed (by kernel_rfl) hb.drew ?_
 have hbd:=hb.drew
 intro Tp M Q hT hT' hM hQ
 simp only[qcmp]
 have hk1:decide ((k:Int)<k)=false:=decide_eq_false (by omega)
 simp (maxSteps:=9^7) only[↓qpre,aAb,aAf,aAc,hk1]
 refine hQ _ _ ?_
 clear hQ hT hT' hM
 go_wp2
 exact TAIL _ k _ _ _ _ _ _ _ _ _ _ _ _ _ _ _ _ hk hbd HC
end Go.Proofs.YtcemkikgaeghjaaGreatDoor
