/- Texts of the walks, together: Walks: the document's Find, without, Clashes, Sorted. Walks: the document's Put and Drop. Contracts of the library at this seat, laid by the shelf, in plain words. Walks: the program's Within, Clash, and clashes with a set of paths. Walks: slices.Clone of files; what copies do. Walks: files copied, with room behind them, and held against what they were. Plain laws of trees: what is put is there, what is dropped is gone, others stay; a tree stays one. Plain laws: three texts in pieces (chunk.Of), in one (merge3.Merge); renames; three trees in one. What the program computes, as functions of lists. -/
import Derived.Shelf.Strings.Prefix
import Derived.Test.YtohblmepajhpaaaGreatDoorRows
import Derived.Maps.RangeWalk
import Derived.Laws.CopyRow
import Derived.Laws.Externs
import Derived.Lib.AppendZeros
import Derived.Lib.AppendZerosOnto
import Derived.Lib.Overlaps
import Derived.Lib.SliceRun
import Derived.OwnWalk
import Derived.Test.YtohblmepajhpaaaGreatDoorG02
import Derived.Test.YtohblmepajhpaaaGreatDoorG04
set_option maxHeartbeats 8000000
set_option maxRecDepth 100000
open Go.Lib (hid)
namespace Go.Proofs.YtohblmepajhpaaaGreatDoor
open Go.RowKit
theorem aCu:Elem Tryz.prog 29 48 3 40:=aBt (by kernel_rfl)
theorem aBn (l:List FV):∀u∈l.flatMap FV.cells,u.oneCell'=true:=by
 intro u hu
 obtain ⟨f,_,hf⟩:=List.mem_flatMap.1 hu
 simp only[FV.cells,List.mem_cons,List.mem_nil_iff,or_false] at hf
 rcases hf with rfl | rfl | rfl<;>rfl
theorem aMq {w w':World}(h:w.grownBy w' none):Below w.heap.size w w':=⟨h.os,h.tape,h.output,h.size,fun k hk=>h.block k hk (by simp)⟩
theorem aQg (w:World)(f:FV):Rd (w.alloc (.cells #[.string f.path,.bool f.exec,.string f.text] 48)) (w.alloc (.cells #[.string f.path,.bool f.exec,.string f.text] 48)).heap.size 3 (some ⟨w.heap.size,0,none⟩) 1 1 ([f].flatMap FV.cells):=
 ⟨rfl,Nat.le_refl _,fun _=>⟨_,0,rfl,by simp,fun j u hu=>by
  rw[Nat.zero_add,World.cell?,heap_alloc_new]
  simpa[FV.cells] using hu⟩⟩
theorem T.flat_take {α:Type}{f:α->List Value}{sz:Nat}(hf:∀a,(f a).length=sz):∀(l:List α) (k:Nat),(l.flatMap f).take (k*sz)=(l.take k).flatMap f
 | [],k=>by simp
 | x::l,0=>by simp
 | x::l,k+1=>by
  rw[List.flatMap_cons,List.take_succ_cons,List.flatMap_cons,Nat.succ_mul,Nat.add_comm,List.take_append,hf,List.take_of_length_le (by rw[hf];omega),show sz+k*sz-sz=k*sz by omega,T.flat_take hf l k]
theorem T.flat_drop {α:Type}{f:α->List Value}{sz:Nat}(hf:∀a,(f a).length=sz):∀(l:List α) (k:Nat),(l.flatMap f).drop (k*sz)=(l.drop k).flatMap f
 | [],k=>by simp
 | x::l,0=>by simp
 | x::l,k+1=>by
  rw[List.flatMap_cons,List.drop_succ_cons,Nat.succ_mul,Nat.add_comm,List.drop_append,hf,List.drop_of_length_le (by rw[hf];omega),List.nil_append,show sz+k*sz-sz=k*sz by omega,T.flat_drop hf l k]
theorem bBg {w:World}{B n c l k:Nat}{A:Option Addr}{xs:List FV}(h:Rd w B 3 A n c (xs.flatMap FV.cells))(hl:l<=k)(hk:k<=n) :
  ∃A',sliced A l k c 3=.slice A' (k-l) (c-l)/\Rd w B 3 A' (k-l) (c-l) (((xs.take k).drop l).flatMap FV.cells):=by
 refine ⟨_,rfl,?_⟩
 have:=h.cut hl hk
 rw[T.flat_take FV.cells_len,T.flat_drop FV.cells_len] at this
 exact this
theorem T.run_lits3 {P:Program}{t e:TypeId}{bytes:Nat}(E:Elem P t e 3 bytes)(a b c:Value)(w:World) :
  (Instr.buildSlice t 1 #[(0,.agg #[a,b,c])]).run P w=.ok (.slice (some ⟨w.heap.size,0,none⟩) 1 1) (w.alloc (.cells #[a,b,c] e)):=by
 obtain ⟨i,z,hi,hz,hsz,hby,hzs⟩:=E.row
 obtain ⟨z0,z1,z2,hzc⟩:∃z0 z1 z2,z.cells=#[z0,z1,z2]:=by
  have:=hzs
  match h:z.cells,this with
  | ⟨[z0,z1,z2]⟩,_=>exact ⟨z0,z1,z2,rfl⟩
 simp[Instr.buildSlice,run_underlying E.und,sizeOf,typeInfo,hi,hsz,zeroValue,hz,Instr.fill,Value.cells,newRow,show Array.range 3=#[0,1,2] from rfl]
theorem T.run_lits4 {P:Program}{t e:TypeId}{bytes:Nat}(E:Elem P t e 4 bytes)(a b c d:Value)(w:World) :
  (Instr.buildSlice t 1 #[(0,.agg #[a,b,c,d])]).run P w=.ok (.slice (some ⟨w.heap.size,0,none⟩) 1 1) (w.alloc (.cells #[a,b,c,d] e)):=by
 obtain ⟨i,z,hi,hz,hsz,hby,hzs⟩:=E.row
 obtain ⟨z0,z1,z2,z3,hzc⟩:∃z0 z1 z2 z3,z.cells=#[z0,z1,z2,z3]:=by
  have:=hzs
  match h:z.cells,this with
  | ⟨[z0,z1,z2,z3]⟩,_=>exact ⟨z0,z1,z2,z3,rfl⟩
 simp[Instr.buildSlice,run_underlying E.und,sizeOf,typeInfo,hi,hsz,zeroValue,hz,Instr.fill,Value.cells,newRow,show Array.range 4=#[0,1,2,3] from rfl]
theorem T.eff_lits {P:Program}{S:World->Prop}{a:Act} {w w':World}{K:Act->World->Prop}{dst:Option Tmp}{t ty:TypeId}{x:Operand}{q:Bool}{g:Option (Tmp×Bool)}{v r:Value}
  (hr:(Instr.buildSlice t 1 #[(0,v)]).run P w=.ok r w') (hx:a.eval x=v) (hK:S w'/\K (a.put dst r) w') :
  effq P S ⟨q,dst,.buildSlice t 1 #[(0,x)],ty,g⟩ a w K:=by
 refine aRr (fun p af g=>?_) hK
 unfold execOp
 simp only[List.map_toArray,List.map_cons,List.map_nil,hx,hr,Sem.run_bind,Sem.run_pure,Result.andThen_ok]
def FilesIs (P:List FV->Prop)(w:World)(e:Ending) (w':World):Prop:=
 ∃(A:Option Addr) (c:Nat) (l:List FV),e=.returned (.slice A l.length c)/\P l/\RdF w' w'.heap.size A l.length c l/\Below w.heap.size w w'
theorem bEv {A:Option Addr}{n c:Nat}{l:List FV}{p:ByteArray}{w:World}(hn:n<=17592186044416)(h:RdF w w.heap.size A n c l) :
  Calls Tryz.prog 25 #[.slice A n c,.string p] w (FoundIs (findP l p) w):=by
 have HL:=hid h.len
 obtain ⟨W,hW⟩:∃u,u=w.alloc (.cells #[.string ⟨#[]⟩,.bool false,.string ⟨#[]⟩] 48):=⟨_,rfl⟩
 have hbW:Below w.heap.size w W:=by rw[hW];exact (Below.refl _ _).alloc (Nat.le_refl _) _
 have hzW:W.heap.size=w.heap.size+1:=by rw[hW];simp
 have hbx:W.heap[w.heap.size]? = some (.cells #[.string ⟨#[]⟩,.bool false,.string ⟨#[]⟩] 48 (0,0)):=by rw[hW];exact heap_alloc_new _ _
 have HX:=hid hbx
 have hi24:(Tryz.prog.info? 48).map (·.size)=some 3:=by kernel_rfl
 clear hbx
 go_enter Tryz.func25,Tryz.ntmps25
 go_wp2
 rw[<-hW]
 clear hW
 go_loopw[6] (fun i wr=>∃k:Nat,k<=n/\i=.int .i64 k/\Below W.heap.size W wr/\Hid (∀j g,j<k->l[j]? = some g->isP p g=false)) (fun i _=>n-(intOf i).toNat)
 case atStart=>exact ⟨0,Nat.zero_le _,rfl,Below.refl _ _,fun j g hj=>absurd hj (Nat.not_lt_zero _)⟩
 obtain ⟨k,hk,rfl,hb,hj⟩:=hrel
 have hbr:Below w.heap.size w wr:=hbW.trans (hb.mono hbW.size)
 have hbox:wr.heap[w.heap.size]? = some (.cells #[.string ⟨#[]⟩,.bool false,.string ⟨#[]⟩] 48 (0,0)):=(hb.block _ (by omega)).trans HX.out
 have HR:=hid (show ∀cs,(wr.setRow w.heap.size cs).heap[w.heap.size]? = some (.cells cs 48 (0,0)) from fun cs=>setRow_heap _ _ _ _ _ _ hbox)
 by_cases hlt:k<n
 ·obtain ⟨b0,o0,f,rfl,hbb,hx,hfm,h0,h1,h2⟩:=h.get hlt
  replace h0:=(hbr.cell (p:=⟨b0,o0+k*3,none⟩) (by show b0<_;omega)).trans h0
  replace h1:=(hbr.cell (p:=⟨b0,o0+k*3+1,none⟩) (by show b0<_;omega)).trans h1
  replace h2:=(hbr.cell (p:=⟨b0,o0+k*3+2,none⟩) (by show b0<_;omega)).trans h2
  by_cases hq:f.path=p
  ·have HO:=hid (show findP l p=some f from FirstAt.find ⟨hx,by simp[hq],hj.out⟩)
   have e1:(f.path.toList == p.toList)=true:=by rw[hq];exact beq_self_eq_true _
   clear hx hj hq
   go_wp2_with (refine wpList_store_row rfl 48 (.tmp 4) (.tmp 23) rfl w.heap.size #[.string f.path,.bool f.exec,.string f.text] rfl rfl _ _ hbox hi24 rfl (by simp[Value.oneCell']) ?_)
   try simp only[Exit.inBlock,Exit.then]
   refine bodyPost_ret (aAm rfl _ _ w.heap.size _ _ (0,0) _ rfl (HR.out _) Tryz.underlying48 rfl (by kernel_rfl)) rfl ?_
   refine ⟨?_,aAj hbr (Nat.le_refl _)⟩
   rw[HO.out];rfl
  have e1:=aBw hq
  have HQ:=hid (show ∀j g,j<k+1->l[j]? = some g->isP p g=false from fun j x hj' hx'=>by
   by_cases e:j=k
   ·subst e;rw[hx] at hx';injection hx' with hx';subst hx';simp[isP,hq]
   exact hj.out j x (by omega) hx')
  clear hx hq
  go_wp2
  go_roundw
  case rel=>exact ⟨k+1,by omega,by go_num,hb,HQ.out⟩
  simp[intOf];omega
 have hkn:k=n:=by omega
 subst hkn
 have HO:=hid (show findP l p=none from (aWx fun f hf=>by
  obtain ⟨i,hi,rfl⟩:=List.getElem_of_mem hf
  exact hj.out i _ (by have:=HL.out;omega) (List.getElem?_eq_getElem hi)).1)
 have hz:=aHn wr
 clear hj
 go_wp2_with (refine wpList_store_row rfl 48 (.tmp 4) (.tmp 24) rfl w.heap.size #[.string ⟨#[]⟩,.bool false,.string ⟨#[]⟩] rfl rfl _ _ hbox hi24 rfl (by simp[Value.oneCell']) ?_)
 try simp only[Exit.inBlock,Exit.then]
 refine bodyPost_ret (aAm rfl _ _ w.heap.size _ _ (0,0) _ rfl (HR.out _) Tryz.underlying48 rfl (by kernel_rfl)) rfl ?_
 refine ⟨?_,aAj hbr (Nat.le_refl _)⟩
 rw[HO.out];rfl
theorem aVd {A:Option Addr}{n c:Nat}{l:List FV}{p:ByteArray}{w:World}(hn:n<=1000000)(h:RdF w w.heap.size A n c l) :
  Calls Tryz.prog 53 #[.slice A n c,.string p] w (FilesIs (·=without l p) w):=by
 have HL:=hid h.len
 have HF:=hid h.fits
 go_enter Tryz.func53,Tryz.ntmps53
 go_wp2
 go_loopw[5,6] (fun lv i wr=>∃(k m:Nat),k<=n/\i=.int .i64 k/\Below w.heap.size w wr/\m<=k/\Hid ((without (l.take k) p).length=m)/\wr.ownsRow w.heap.size 48 3 lv m ((without (l.take k) p).flatMap FV.cells)) (fun _ i _=>n-(intOf i).toNat)
 case atStart=>exact ⟨0,0,Nat.zero_le _,rfl,Below.refl _ _,Nat.le_refl _,by rw[List.take_zero];exact rfl,by rw[List.take_zero];exact World.ownsRow_nil _ _ _ _⟩
 obtain ⟨k,m,hk,rfl,hb,hmk,hm,ho⟩:=hrel
 by_cases hlt:k<n
 ·obtain ⟨b0,o0,f,rfl,hbb,hx,hfm,h0,h1,h2⟩:=h.get hlt
  replace h0:=(hb.cell (p:=⟨b0,o0+k*3,none⟩) (by show b0<_;omega)).trans h0
  replace h1:=(hb.cell (p:=⟨b0,o0+k*3+1,none⟩) (by show b0<_;omega)).trans h1
  replace h2:=(hb.cell (p:=⟨b0,o0+k*3+2,none⟩) (by show b0<_;omega)).trans h2
  by_cases hq:f.path=p
  ·have e1:(f.path.toList == p.toList)=true:=by rw[hq];exact beq_self_eq_true _
   have HW:=hid (show without (l.take (k+1)) p=without (l.take k) p by rw[List.take_add_one,hx,without,List.filter_append];simp[hq,without])
   clear hx hq
   go_wp2
   go_roundw
   case rel=>exact ⟨k+1,m,by omega,by go_num,hb,by omega,by rw[HW.out];exact hm,by rw[HW.out];exact ho⟩
   simp[intOf];omega
  have e1:=aBw hq
  have HW:=hid (show without (l.take (k+1)) p=without (l.take k) p++[f] by rw[List.take_add_one,hx,without,List.filter_append];simp[hq,without])
  have hb1:=hb.alloc hb.size (.cells #[.string f.path,.bool f.exec,.string f.text] 48)
  have ho1:=ho.alloc (.cells #[.string f.path,.bool f.exec,.string f.text] 48)
  clear hx hq
  go_wp2_with (at_builtin;refine aAn rfl (.tmp 20) (.tmp 25) 29 rfl aCu rfl rfl ho1 (aQg wr f) (aBn _) (by unfold maxLen;omega) (by omega) hb1.size ?_;intro v7 w7 ho7 hg7 hv7)
  go_roundw
  case rel=>
   refine ⟨k+1,m+1,by omega,by go_num,hb1.grown hg7 hb1.size (fun g hg=>(ho1.lt g hg).1),by omega,?_,?_⟩
   ·show (without (l.take (k+1)) p).length=m+1
    rw[HW.out,List.length_append,hm.out];rfl
   rw[HW.out,List.flatMap_append];exact ho7
  simp[intOf];omega
 have hkn:k=n:=by omega
 subst hkn
 rw[List.take_of_length_le (by rw[HL.out];omega)] at hm ho
 go_wp2
 go_ret
 obtain ⟨A7,c7,rfl,hc7⟩:=aAd ho
 have hr:=Rd.of_own ho hc7
 rw[<-hm.out] at hr ⊢
 exact ⟨A7,c7,_,rfl,rfl,⟨hr,rfl,fun x hx=>HF.out x ((List.mem_filter.1 hx).1)⟩,hb⟩
theorem aSy {A:Option Addr}{n c:Nat}{l:List FV}{p:ByteArray}{w:World}(hn:n<=17592186044416)(hp:p.size<=maxLen)(h:RdF w w.heap.size A n c l) :
  Calls Tryz.prog 54 #[.slice A n c,.string p] w (BoolBelow (clashF l p) w):=by
 have HL:=hid h.len
 go_enter Tryz.func54,Tryz.ntmps54
 go_wp2
 go_loopw[5] (fun i wr=>∃k:Nat,k<=n/\i=.int .i64 k/\Below w.heap.size w wr/\Hid (clashF (l.take k) p=false)) (fun i _=>n-(intOf i).toNat)
 case atStart=>exact ⟨0,Nat.zero_le _,rfl,Below.refl _ _,by rw[List.take_zero];exact rfl⟩
 obtain ⟨k,hk,rfl,hb,hj⟩:=hrel
 by_cases hlt:k<n
 ·obtain ⟨b0,o0,f,rfl,hbb,hx,hfm,h0,h1,h2⟩:=h.get hlt
  replace h0:=(hb.cell (p:=⟨b0,o0+k*3,none⟩) (by show b0<_;omega)).trans h0
  have hfit:=(h.fits f hfm).1
  clear h1 h2
  have HN:=hid (show clashF (l.take (k+1)) p=(clashF (l.take k) p || (!decide (f.path=p) && clashP f.p p.data.toList)) by rw[List.take_add_one,hx];simp[clashF])
  by_cases hq:f.path=p
  ·have e1:(f.path.toList == p.toList)=true:=by rw[hq];exact beq_self_eq_true _
   have HO:=hid (show clashF (l.take (k+1)) p=false by rw[HN.out,hj.out,hq];simp)
   clear hx hq
   go_wp2
   go_roundw
   case rel=>exact ⟨k+1,by omega,by go_num,hb,HO.out⟩
   simp[intOf];omega
  have e1:=aBw hq
  have C:=aOb (p:=f.path) (d:=p) (w:=wr) (by unfold maxLen;omega) hp
  cases hc:clashP f.path.data.toList p.data.toList with
  | true=>
   rw[hc] at C
   have HO:=hid (show clashF l p=true by
    simp only[clashF,List.any_eq_true,Bool.and_eq_true]
    exact ⟨f,hfm,by simp[hq],hc⟩)
   clear hx hq hc
   go_wp2_with fail
   refine C.mono ?_
   rintro e w1 ⟨rfl,rfl⟩
   clear C
   go_wp2
   go_ret
   exact ⟨aAf HO.out.symm,hb⟩
  | false=>
   rw[hc] at C
   have HO:=hid (show clashF (l.take (k+1)) p=false by rw[HN.out,hj.out,FV.p,hc];simp)
   clear hx hq hc
   go_wp2_with fail
   refine C.mono ?_
   rintro e w1 ⟨rfl,rfl⟩
   clear C
   go_wp2
   go_roundw
   case rel=>exact ⟨k+1,by omega,by go_num,hb,HO.out⟩
   simp[intOf];omega
 have hkn:k=n:=by omega
 subst hkn
 have HO:=hid (show clashF l p=false by have:=hj.out;rwa [List.take_of_length_le (by rw[HL.out];omega)] at this)
 go_wp2
 go_ret
 exact ⟨aAf HO.out.symm,hb⟩
def NewAt (A:Option Addr)(B:Nat):Prop:=∀b o s,A=some ⟨b,o,s⟩->B<=b
theorem NewAt.none_ (B:Nat):NewAt none B:=fun _ _ _ h=>by cases h
def FilesIsN (P:List FV->Prop)(w:World)(e:Ending) (w':World):Prop:=
 ∃(A:Option Addr) (c:Nat) (l:List FV),e=.returned (.slice A l.length c)/\P l/\RdF w' w'.heap.size A l.length c l/\Below w.heap.size w w'/\NewAt A w.heap.size
theorem aNz {A:Option Addr}{n c:Nat}{l:List FV}{f:FV}{w:World}(hn:n<=1000000)(h:RdF w w.heap.size A n c l)(hff:f.path.size<=140737488351232/\f.text.size<=140737488351232) :
  Calls Tryz.prog 55 #[.slice A n c,.agg #[.string f.path,.bool f.exec,.string f.text]] w (FilesIsN (·=sortedIn l f) w):=by
 have HL:=hid h.len
 have HF:=hid h.fits
 have hcap:=h.row.cap
 obtain ⟨W,hW⟩:∃u,u=w.alloc (.cells #[.string f.path,.bool f.exec,.string f.text] 48):=⟨_,rfl⟩
 have hbW:Below w.heap.size w W:=by rw[hW];exact (Below.refl _ _).alloc (Nat.le_refl _) _
 have hzW:W.heap.size=w.heap.size+1:=by rw[hW];simp
 have hx:∀i u,f.cells[i]? = some u->∀u',Below W.heap.size W u'->u'.cell? ⟨w.heap.size,i,none⟩=some u:=fun i u hu u' hu'=>
  (hu'.cell (p:=⟨w.heap.size,i,none⟩) (by show w.heap.size<_;omega)).trans (by rw[hW,World.cell?,heap_alloc_new];simpa[FV.cells] using hu)
 have XB:=hid hx
 clear hx
 have hR:=h.row.to hbW hbW.size
 go_enter Tryz.func55,Tryz.ntmps55
 go_wp2
 rw[<-hW]
 clear hW
 rename_i K hK
 have TAIL:∀(wr:World) (k:Nat) (u6 u7 u8 u9 u10 u11 u12 u13 u14 u15 u16 u17 u18 u19 u20 u21:Value),k<=n->Below W.heap.size W wr->Hid (sortedIn l f=l.take k++f::l.drop k)->K ⟨#[.slice A n c,.agg #[.string f.path,.bool f.exec,.string f.text],undef,.pointer (some ⟨w.heap.size,0,none⟩),.slice none 0 0,.int .i64 k,u6,u7,u8,u9,u10,u11,u12,u13,u14,u15,u16,u17,u18,u19,u20,u21,undef,undef,undef,undef,undef,undef,undef,undef,undef,undef,undef],[]⟩ wr:=by
  intro wr k u6 u7 u8 u9 u10 u11 u12 u13 u14 u15 u16 u17 u18 u19 u20 u21 hk hbr HP
  refine hK _ _ ?_
  clear hK
  have HR:=hid (hR.below hbr)
  go_wp2
  refine aAv (fun v'=>Below W.heap.size W v') (.q 0 (.q 1 (.q 2 (.q 4 (.q 7 (.q 8 (.q 9 (.two 3 (.one 5 (.one 6 (.one 10 (.q 11 .leaf)))) 5 (.one 3 (.one 6 (.one 10 (.q 11 .leaf)))))))))))) mixed (by kernel_rfl) hbr.drew ?_
  intro Tp M Q hT hT' hM hQ
  have m0:M ⟨w.heap.size,0,none⟩=some (.string f.path):=hM _ _ fun w' hw=>XB.out 0 _ rfl w' hw
  have m1:M ⟨w.heap.size,1,none⟩=some (.bool f.exec):=hM _ _ fun w' hw=>XB.out 1 _ rfl w' hw
  have m2:M ⟨w.heap.size,2,none⟩=some (.string f.text):=hM _ _ fun w' hw=>XB.out 2 _ rfl w' hw
  clear hM
  refine aDy ?_
  intro O hO
  have t0:=hO true 0
  have t1:=hO true 1
  have t2:=hO true 2
  have t4:=hO true 4
  have t7:=hO true 7
  have t8:=hO true 8
  have t9:=hO true 9
  have t11:=hO true 11
  have e3:=hO false 3
  have e5:=hO false 5
  have e6:=hO false 6
  have e10:=hO false 10
  simp only[qcmp] at t0 t1 t2 t4 t7 t8 t9 t11 e3 e5 e6 e10
  clear hO
  simp (maxSteps:=9^7) only[↓wt_q,↓aBb,t0,t1,t2,t4,t7,t8,t9,e3,e5,↓qpre,aAb,aAe,aAc,m0,m1,m2]
  clear t0 t1 t2 t4 t7 t8 t9 m0 m1 m2
  have hrd:=HR.out.drew
  have hbd:Below W.heap.size W wr.drew:=hbr.drew
  clear hbr
  generalize wr.drew=w1 at *
  obtain ⟨A1,q1,r1⟩:=bBg hrd (l:=0) (k:=k) (by omega) hk
  obtain ⟨A2,q2,r2⟩:=bBg hrd (l:=k) (k:=n) hk (Nat.le_refl _)
  rw[q1,q2]
  rw[Nat.sub_zero,List.drop_zero] at r1
  rw[List.take_of_length_le (by rw[HL.out];omega)] at r2
  clear q1 q2 hrd
  have hbs:=hbd.size
  simp only[Nat.sub_zero]
  refine ⟨⟨by omega,by omega⟩,⟨by omega,by omega⟩,?_,?_⟩
  ·refine aAw aCu (base:=W.heap.size) (n:=0) (xs:=[]) rfl rfl (World.ownsRow_nil _ _ _ _) r1 (aBn _) (by simp only[maxLen];omega) (by omega) hbs ?_
   intro v1 w2 ho1 hg1 _
   rw[Nat.zero_add,List.nil_append] at ho1
   have hb2:=hbd.grown hg1 hbs (fun g hg=>by cases hg)
   replace r2:=r2.below (aMq (w:=w1) (w':=w2) hg1 |>.mono hbs)
   refine ⟨hT _ hb2,?_⟩
   simp (maxSteps:=9^7) only[↓aAl,e5,aAb,aAc]
   refine T.eff_lits (T.run_lits3 aCu (.string f.path) (.bool f.exec) (.string f.text) _) rfl ⟨hT _ (hb2.alloc hb2.size _),?_⟩
   have ho1':=ho1.alloc (.cells #[.string f.path,.bool f.exec,.string f.text] 48)
   have hv:=aQg w2 f
   have hb3:=hb2.alloc hb2.size (.cells #[.string f.path,.bool f.exec,.string f.text] 48)
   replace r2:=r2.below ((Below.refl w2.heap.size w2).alloc (Nat.le_refl _) (.cells #[.string f.path,.bool f.exec,.string f.text] 48) |>.mono hb2.size)
   clear ho1 hg1 hb2 r1 hbd hbs
   simp (maxSteps:=9^7) only[↓aAl,e6,aAb,aAc]
   generalize w2.alloc (.cells #[.string f.path,.bool f.exec,.string f.text] 48)=w3 at *
   refine aAw aCu (base:=W.heap.size) (n:=k) rfl rfl ho1' hv (aBn _) (by simp only[maxLen];omega) (by omega) hb3.size ?_
   intro v4 w4 ho4 hg4 _
   have hb4:=hb3.grown hg4 hb3.size (fun g hg=>(ho1'.lt g hg).1)
   replace r2:=r2.grown hg4 hb3.size (fun g hg=>(ho1'.lt g hg).1)
   refine ⟨hT _ hb4,?_⟩
   simp (maxSteps:=9^7) only[↓aAl,e10,aAb,aAc]
   refine aAw aCu (base:=W.heap.size) (n:=k+1) rfl rfl ho4 r2 (aBn _) (by simp only[maxLen];omega) (by omega) hb4.size ?_
   intro v5 w5 ho5 hg5 _
   have hb5:=hb4.grown hg5 hb4.size (fun g hg=>(ho4.lt g hg).1)
   refine ⟨hT _ hb5,?_⟩
   simp (maxSteps:=9^7) only[↓aLm,↓wt_q,t11,↓qpre,aAb,aAc]
   refine hQ _ _ ?_
   have HB:=hid hb5
   have HO:=hid ho5
   clear hQ hT hT' t11 e3 e5 e6 e10 ho1' hv hb3 ho4 hg4 hb4 r2 hb5 ho5 hg5
   try clear x0
   go_wp2
   go_ret
   obtain ⟨A5,c5,rfl,hc5⟩:=aAd HO.out
   have hr5:=Rd.of_own HO.out hc5
   rw[<-List.flatMap_append,<-List.flatMap_append] at hr5
   have hll:(l.take k++[f]++l.drop k).length=k+1+(n-k):=by rw[List.length_append,List.length_append,List.length_take,List.length_drop,HL.out,Nat.min_eq_left hk];rfl
   rw[<-hll] at hr5 ⊢
   refine ⟨A5,c5,_,rfl,?_,⟨hr5,rfl,fun x hx=>?_⟩,hbW.trans (HB.out.mono (by omega)),fun b o s hA=>by have:=(HO.out.lt b (by rw[hA];rfl)).1;omega⟩
   ·rw[HP.out];simp
   simp only[List.mem_append,List.mem_singleton] at hx
   rcases hx with (hx | rfl) | hx
   ·exact HF.out x (List.mem_of_mem_take hx)
   ·exact hff
   exact HF.out x (List.mem_of_mem_drop hx)
  refine T.eff_lits (T.run_lits3 aCu (.string f.path) (.bool f.exec) (.string f.text) _) rfl ⟨hT _ (hbd.alloc hbs _),?_⟩
  have hv0:=aQg w1 f
  have hb2:=hbd.alloc hbs (.cells #[.string f.path,.bool f.exec,.string f.text] 48)
  replace r1:=r1.below ((Below.refl w1.heap.size w1).alloc (Nat.le_refl _) (.cells #[.string f.path,.bool f.exec,.string f.text] 48) |>.mono hbs)
  replace r2:=r2.below ((Below.refl w1.heap.size w1).alloc (Nat.le_refl _) (.cells #[.string f.path,.bool f.exec,.string f.text] 48) |>.mono hbs)
  simp (maxSteps:=9^7) only[↓aAl,e3,aAb,aAc]
  generalize w1.alloc (.cells #[.string f.path,.bool f.exec,.string f.text] 48)=w2 at *
  have hbs2:=hb2.size
  refine aAw aCu (base:=W.heap.size) (n:=0) (xs:=[]) rfl rfl (World.ownsRow_nil _ _ _ _) r1 (aBn _) (by simp only[maxLen];omega) (by omega) hbs2 ?_
  intro v1 w3 ho1' hg1 _
  rw[Nat.zero_add,List.nil_append] at ho1'
  have hb3:=hb2.grown hg1 hbs2 (fun g hg=>by cases hg)
  have hgb:=aMq (w:=w2) (w':=w3) hg1
  replace r2:=r2.below (hgb.mono hbs2)
  have hv:=hv0.below hgb
  clear hv0 hg1 hb2 r1 hbd hbs hbs2 hgb
  refine ⟨hT _ hb3,?_⟩
  simp (maxSteps:=9^7) only[↓aAl,e6,aAb,aAc]
  refine aAw aCu (base:=W.heap.size) (n:=k) rfl rfl ho1' hv (aBn _) (by simp only[maxLen];omega) (by omega) hb3.size ?_
  intro v4 w4 ho4 hg4 _
  have hb4:=hb3.grown hg4 hb3.size (fun g hg=>(ho1'.lt g hg).1)
  replace r2:=r2.grown hg4 hb3.size (fun g hg=>(ho1'.lt g hg).1)
  refine ⟨hT _ hb4,?_⟩
  simp (maxSteps:=9^7) only[↓aAl,e10,aAb,aAc]
  refine aAw aCu (base:=W.heap.size) (n:=k+1) rfl rfl ho4 r2 (aBn _) (by simp only[maxLen];omega) (by omega) hb4.size ?_
  intro v5 w5 ho5 hg5 _
  have hb5:=hb4.grown hg5 hb4.size (fun g hg=>(ho4.lt g hg).1)
  refine ⟨hT _ hb5,?_⟩
  simp (maxSteps:=9^7) only[↓aLm,↓wt_q,t11,↓qpre,aAb,aAc]
  refine hQ _ _ ?_
  have HB:=hid hb5
  have HO:=hid ho5
  clear hQ hT hT' t11 e3 e5 e6 e10 ho1' hv hb3 ho4 hg4 hb4 r2 hb5 ho5 hg5
  try clear x0
  go_wp2
  go_ret
  obtain ⟨A5,c5,rfl,hc5⟩:=aAd HO.out
  have hr5:=Rd.of_own HO.out hc5
  rw[<-List.flatMap_append,<-List.flatMap_append] at hr5
  have hll:(l.take k++[f]++l.drop k).length=k+1+(n-k):=by rw[List.length_append,List.length_append,List.length_take,List.length_drop,HL.out,Nat.min_eq_left hk];rfl
  rw[<-hll] at hr5 ⊢
  refine ⟨A5,c5,_,rfl,?_,⟨hr5,rfl,fun x hx=>?_⟩,hbW.trans (HB.out.mono (by omega)),fun b o s hA=>by have:=(HO.out.lt b (by rw[hA];rfl)).1;omega⟩
  ·rw[HP.out];simp
  simp only[List.mem_append,List.mem_singleton] at hx
  rcases hx with (hx | rfl) | hx
  ·exact HF.out x (List.mem_of_mem_take hx)
  ·exact hff
  exact HF.out x (List.mem_of_mem_drop hx)
 clear hK
 go_loopw[5] (fun i wr=>∃k:Nat,k<=n/\i=.int .i64 k/\Below W.heap.size W wr/\Hid (∀j g,j<k->l[j]? = some g->g.p<f.p)) (fun i _=>n-(intOf i).toNat)
 case atStart=>exact ⟨0,Nat.zero_le _,rfl,Below.refl _ _,fun j g hj=>absurd hj (Nat.not_lt_zero _)⟩
 obtain ⟨k,hk,rfl,hb,hj⟩:=hrel
 have hbr:Below w.heap.size w wr:=hbW.trans (hb.mono hbW.size)
 have CUT:(∀g,l[k]? = some g->¬g.p<f.p)->Hid (sortedIn l f=l.take k++f::l.drop k):=fun hn=>by
  show sortedIn l f=_
  conv=>lhs;rw[<-List.take_append_drop k l]
  refine aSg (fun x hx=>?_) fun x hx=>hn x (by rwa [List.getElem?_drop,Nat.add_zero] at hx)
  obtain ⟨j,hj',e⟩:=List.getElem_of_mem hx
  rw[List.length_take] at hj'
  rw[List.getElem_take] at e
  exact hj.out j x (by omega) (by rw[<-e];exact List.getElem?_eq_getElem _)
 by_cases hlt:k<n
 ·obtain ⟨b0,o0,g,rfl,hbb,hx,hfm,h0,_,_⟩:=h.get hlt
  replace h0:=(hbr.cell (p:=⟨b0,o0+k*3,none⟩) (by show b0<_;omega)).trans h0
  go_wp2
  refine aAh (fun w'=>Below W.heap.size W w') (qs 14) mixed (by kernel_rfl) hb.drew ?_
  have hbd:=hb.drew
  intro Tp M Q hT hT' hM hQ
  have m0:M ⟨b0,o0+k*3,none⟩=some (.string g.path):=hM _ _ fun w' hw=>((hbW.trans (hw.mono hbW.size)).cell (p:=⟨b0,o0+k*3,none⟩) (by show b0<_;omega)).trans ((hbr.cell (p:=⟨b0,o0+k*3,none⟩) (by show b0<_;omega)).symm.trans h0)
  have mb:M ⟨w.heap.size,0,none⟩=some (.string f.path):=hM _ _ fun w' hw=>XB.out 0 _ rfl w' hw
  simp only[qcmp]
  have hk1:decide ((k:Int)<n)=true:=decide_eq_true (by omega)
  by_cases hq:g.path.data.toList<f.path.data.toList
  ·have hl:=(aRf g.path f.path).trans (decide_eq_true hq)
   have HQ:=hid (show ∀j x,j<k+1->l[j]? = some x->x.p<f.p from fun j x hj' hx'=>by
    by_cases e:j=k
    ·subst e;rw[hx] at hx';injection hx' with hx';subst hx';exact hq
    exact hj.out j x (by omega) hx')
   clear hq hx CUT
   simp (maxSteps:=9^7) only[↓qpre,aAb,aAe,aAc,m0,mb,hk1,hl]
   refine ⟨⟨by omega,by omega⟩,hQ _ _ ?_⟩
   clear hQ hT hT' hM m0 mb hl TAIL
   go_wp2
   go_roundw
   case rel=>exact ⟨k+1,by omega,by go_num,hbd,HQ.out⟩
   simp[intOf];omega
  have hl:=(aRf g.path f.path).trans (decide_eq_false hq)
  have HC:=CUT (fun x hx'=>by rw[hx] at hx';injection hx' with hx';subst hx';exact hq)
  clear hq hx CUT
  simp (maxSteps:=9^7) only[↓qpre,aAb,aAe,aAc,m0,mb,hk1,hl]
  refine ⟨⟨by omega,by omega⟩,hQ _ _ ?_⟩
  clear hQ hT hT' hM m0 mb hl
  go_wp2
  exact TAIL _ k _ _ _ _ _ _ _ _ _ _ _ _ _ _ _ _ hk hbd HC
 have hkn:k=n:=by omega
 subst hkn
 have HC:=CUT (fun x hx'=>by have:=(List.getElem?_eq_some_iff.1 hx').1;rw[HL.out] at this;omega)
 clear CUT
 go_wp2
 refine aAh (fun w'=>Below W.heap.size W w') (qs 14) mixed (by kernel_rfl) hb.drew ?_
 have hbd:=hb.drew
 intro Tp M Q hT hT' hM hQ
 simp only[qcmp]
 have hk1:decide ((k:Int)<k)=false:=decide_eq_false (by omega)
 simp (maxSteps:=9^7) only[↓qpre,aAb,aAe,aAc,hk1]
 refine hQ _ _ ?_
 clear hQ hT hT' hM
 go_wp2
 exact TAIL _ k _ _ _ _ _ _ _ _ _ _ _ _ _ _ _ _ hk hbd HC
def FilesErr (r:List FV×Int)(w:World)(e:Ending) (w':World):Prop:=
 ∃(A:Option Addr) (c:Nat),e=.returned (.tuple #[.slice A r.1.length c,.int .i64 r.2])/\RdF w' w'.heap.size A r.1.length c r.1/\Below w.heap.size w w'
theorem aDs {l:List FV}(h:treeOk l=true):l.length<=100:=(aAt.1 h).1
theorem aHa (l:List FV)(p:ByteArray):(without l p).length<=l.length:=List.length_filter_le _ _
theorem aQz (l:List FV)(p:ByteArray):(findP l p).isSome=hasP l p:=by
 cases h:findP l p with
 | none=>rw[aJc.1 h];rfl
 | some f=>rw[(aDl.2 ⟨f,aCi h⟩)];rfl
def FilesErrN (r:List FV×Int)(w:World)(e:Ending) (w':World):Prop:=
 ∃(A:Option Addr) (c:Nat),e=.returned (.tuple #[.slice A r.1.length c,.int .i64 r.2])/\RdF w' w'.heap.size A r.1.length c r.1/\Below w.heap.size w w'/\NewAt A w.heap.size
theorem aBv {r:List FV×Int}{k:Int} {w w':World}(h:r=([],k))(hb:Below w.heap.size w w'):FilesErrN r w (.returned (.tuple #[.slice none 0 0,.int .i64 k])) w':=by
 subst h
 exact ⟨none,0,rfl,RdF.none_ _ _,hb,NewAt.none_ _⟩
theorem aKc {r:List FV×Int}{A:Option Addr}{c n:Nat}{l:List FV} {w w':World}(hn:l.length=n)(h:r=(l,0))(hr:RdF w' w'.heap.size A n c l)(hb:Below w.heap.size w w')(hN:NewAt A w.heap.size):FilesErrN r w (.returned (.tuple #[.slice A n c,.int .i64 0])) w':=by
 subst h
 subst hn
 exact ⟨A,c,rfl,hr,hb,hN⟩
theorem bGq {A:Option Addr}{n c:Nat}{l:List FV}{f:FV}{w:World}(hn:n<=17592186044416)(h:RdF w w.heap.size A n c l)(hff:f.path.size<=140737488351232/\f.text.size<=140737488351232) :
  Calls Tryz.prog 23 #[.slice A n c,.agg #[.string f.path,.bool f.exec,.string f.text]] w (FilesErrN (putF l f) w):=by
 have HL:=hid h.len
 obtain ⟨W,hW⟩:∃u,u=w.alloc (.cells #[.string f.path,.bool f.exec,.string f.text] 48):=⟨_,rfl⟩
 have hbW:Below w.heap.size w W:=by rw[hW];exact (Below.refl _ _).alloc (Nat.le_refl _) _
 have hzW:W.heap.size=w.heap.size+1:=by rw[hW];simp
 have hx:∀i u,f.cells[i]? = some u->∀u',Below W.heap.size W u'->u'.cell? ⟨w.heap.size,i,none⟩=some u:=fun i u hu u' hu'=>
  (hu'.cell (p:=⟨w.heap.size,i,none⟩) (by show w.heap.size<_;omega)).trans (by rw[hW,World.cell?,heap_alloc_new];simpa[FV.cells] using hu)
 have XB:=hid hx
 clear hx
 have UP:∀u,Below W.heap.size W u->Below w.heap.size w u:=fun u hu=>hbW.trans (hu.mono hbW.size)
 have MORE:∀{u v:World},Below W.heap.size W u->Below u.heap.size u v->Below W.heap.size W v:=fun h1 h2=>h1.trans (h2.mono h1.size)
 have RD:∀u,Below W.heap.size W u->RdF u u.heap.size A n c l:=fun u hu=>h.to (UP u hu) (UP u hu).size
 go_enter Tryz.func23,Tryz.ntmps23
 go_wp2_with fail
 rw[<-hW]
 clear hW
 refine (bAj hn (RD W (Below.refl _ _))).mono ?_
 rintro e w1 ⟨rfl,hb1⟩
 cases ht:treeOk l with
 | false=>
  have HP:=hid (show putF l f=([],5) by simp[putF,ht])
  clear ht
  go_wp2
  go_ret2
  exact aBv HP.out (UP _ hb1)
 | true=>
 have hlen:=aDs ht
 rw[HL.out] at hlen
 have HT:=hid ht
 clear ht
 have x0:=XB.out 0 _ rfl w1 hb1
 go_wp2_with fail
 refine (aSu (s:=f.path)).mono ?_
 rintro e w2 ⟨rfl,hv⟩
 have hb2:=MORE hb1 hv
 clear hb1 hv x0
 have hp0:pathOk f.path.data.toList=pathOk f.p:=rfl
 rw[hp0]
 clear hp0
 cases hp:pathOk f.p with
 | false=>
  have HP:=hid (show putF l f=([],11) by simp[putF,HT.out,hp])
  clear hp
  go_wp2
  go_ret2
  exact aBv HP.out (UP _ hb2)
 | true=>
 have HK:=hid hp
 clear hp
 have x2:=XB.out 2 _ rfl w2 hb2
 by_cases hz:20000<f.text.size
 ·have HP:=hid (show putF l f=([],6) by simp[putF,HT.out,HK.out,hz])
  go_wp2
  go_ret2
  exact aBv HP.out (UP _ hb2)
 have x0:=XB.out 0 _ rfl w2 hb2
 go_wp2_with fail
 refine (bEv hn (RD _ hb2)).mono ?_
 rintro e w3 ⟨rfl,hv⟩
 have hb3:=MORE hb2 hv
 clear hb2 hv x0 x2
 obtain ⟨w4,hw4⟩:∃u,u=w3.alloc (.cells #[.string (optF (findP l f.path)).path,.bool (optF (findP l f.path)).exec,.string (optF (findP l f.path)).text] 48):=⟨_,rfl⟩
 have hb4:Below W.heap.size W w4:=by rw[hw4];exact hb3.alloc hb3.size _
 have x0:(w3.alloc (.cells #[.string (optF (findP l f.path)).path,.bool (optF (findP l f.path)).exec,.string (optF (findP l f.path)).text] 48)).cell? ⟨w.heap.size,0,none⟩=some (.string f.path):=by rw[<-hw4];exact XB.out 0 _ rfl w4 hb4
 rw[aQz]
 go_wp2_with fail
 rw[<-hw4]
 clear x0 hw4 hb3
 refine (aVd (p:=f.path) (by omega) (RD _ hb4)).mono ?_
 rintro e w5 ⟨A5,c5,l5,rfl,rfl,hr5,hv⟩
 have hb5:=MORE hb4 hv
 clear hb4 hv
 have hl5:=aHa l f.path
 rw[HL.out] at hl5
 have x0:=XB.out 0 _ rfl w5 hb5
 cases hh:hasP l f.path with
 | true=>
  have HP:=hid (show putF l f=(sortedIn (without l f.path) f,0) by simp[putF,HT.out,HK.out,hz,hh])
  clear hh
  have x1:=XB.out 1 _ rfl w5 hb5
  have x2:=XB.out 2 _ rfl w5 hb5
  generalize hm:(without l f.path).length=m at *
  go_wp2_with fail
  refine (aNz (f:=f) (by omega) hr5 hff).mono ?_
  rintro e w6 ⟨A6,c6,l6,rfl,rfl,hr6,hv,hN6⟩
  have HS5:=hid hb5
  have hb6:=MORE hb5 hv
  clear x0 x1 x2
  go_wp2
  go_ret2
  exact aKc rfl HP.out hr6 (UP _ hb6) (fun b o s hA=>Nat.le_trans (UP _ HS5.out).size (hN6 b o s hA))
 | false=>
  have HW:=hid (aKl hh)
  go_wp2_with fail
  refine (aSy (p:=f.path) hn (by unfold maxLen;omega) (RD _ hb5)).mono ?_
  rintro e w6 ⟨rfl,hv⟩
  have hb6:=MORE hb5 hv
  have hr6:=hr5.to hv hv.size
  clear hb5 hr5 hv x0
  cases hc:clashF l f.path with
  | true=>
   have HP:=hid (show putF l f=([],11) by simp[putF,HT.out,HK.out,hz,hh,hc])
   clear hh hc
   go_wp2
   go_ret2
   exact aBv HP.out (UP _ hb6)
  | false=>
   by_cases hbig:100<=n
   ·have HP:=hid (show putF l f=([],6) by simp[putF,HT.out,HK.out,hz,hh,hc,HL.out,hbig])
    clear hh hc
    go_wp2
    go_ret2
    exact aBv HP.out (UP _ hb6)
   have HP:=hid (show putF l f=(sortedIn (without l f.path) f,0) by simp[putF,HT.out,HK.out,hz,hh,hc,HL.out,hbig,HW.out])
   clear hh hc
   have x0:=XB.out 0 _ rfl w6 hb6
   have x1:=XB.out 1 _ rfl w6 hb6
   have x2:=XB.out 2 _ rfl w6 hb6
   generalize hm:(without l f.path).length=m at *
   go_wp2_with fail
   refine (aNz (f:=f) (by omega) hr6 hff).mono ?_
   rintro e w7 ⟨A7,c7,l7,rfl,rfl,hr7,hv,hN7⟩
   have HS6:=hid hb6
   have hb7:=MORE hb6 hv
   clear x0 x1 x2
   go_wp2
   go_ret2
   exact aKc rfl HP.out hr7 (UP _ hb7) (fun b o s hA=>Nat.le_trans (UP _ HS6.out).size (hN7 b o s hA))
end Go.Proofs.YtohblmepajhpaaaGreatDoor
namespace Go.Proofs.YtohblmepajhpaaaGreatDoor
open Go.Shelf
def Tryz.lays99_ren:Go.Shelf.Ren:=⟨fun | 99=>258 | 206=>284 | n=>n,fun | 9=>9 | 4=>4 | 3=>3 | n=>n,fun | n=>n⟩
theorem Tryz.lays99:Go.Proofs.Lays.n99 Tryz.prog Tryz.lays99_ren:={
 mixed:=by kernel_rfl
 f99:=Tryz.func258.trans (congrArg some (by kernel_rfl))
 f206:=Tryz.func284.trans (congrArg some (by kernel_rfl))
 t3:=Tryz.underlying3
 a3:=Tryz.isAgg3
 z3:=Tryz.sizeOf3
 v3:=Tryz.zeroValue3
 t4:=Tryz.underlying4
 a4:=Tryz.isAgg4
 z4:=Tryz.sizeOf4
 v4:=Tryz.zeroValue4
 t9:=Tryz.underlying9
 a9:=Tryz.isAgg9
 z9:=Tryz.sizeOf9
 v9:=Tryz.zeroValue9 }
open Go.RowKit Go.Lib in
theorem Tryz.strings_HasPrefix (s p:ByteArray)(w:World) :
  Calls Tryz.prog 258 #[.string s,.string p] w fun e w'=>e=.returned (.bool (Lib.hasPrefix s.data.toList p.data.toList))/\w'=w:=Any.strings_HasPrefix Tryz.lays99 s p w
def Tryz.lays100_ren:Go.Shelf.Ren:=⟨fun | 100=>224 | 207=>267 | n=>n,fun | 9=>9 | 4=>4 | 3=>3 | n=>n,fun | n=>n⟩
theorem Tryz.lays100:Go.Proofs.Lays.n100 Tryz.prog Tryz.lays100_ren:={
 mixed:=by kernel_rfl
 f100:=Tryz.func224.trans (congrArg some (by kernel_rfl))
 f207:=Tryz.func267.trans (congrArg some (by kernel_rfl))
 t3:=Tryz.underlying3
 a3:=Tryz.isAgg3
 z3:=Tryz.sizeOf3
 v3:=Tryz.zeroValue3
 t4:=Tryz.underlying4
 a4:=Tryz.isAgg4
 z4:=Tryz.sizeOf4
 v4:=Tryz.zeroValue4
 t9:=Tryz.underlying9
 a9:=Tryz.isAgg9
 z9:=Tryz.sizeOf9
 v9:=Tryz.zeroValue9 }
open Go.RowKit Go.Lib in
theorem Tryz.strings_HasSuffix (s p:ByteArray)(w:World)(hs:s.size<=9223372036854775807) :
  Calls Tryz.prog 224 #[.string s,.string p] w fun e w'=>e=.returned (.bool (Lib.hasSuffix s.data.toList p.data.toList))/\w'=w:=Any.strings_HasSuffix Tryz.lays100 s p w hs
end Go.Proofs.YtohblmepajhpaaaGreatDoor
namespace Go.Proofs.YtohblmepajhpaaaGreatDoor
open Go.RowKit
theorem aMd {p d:ByteArray}{w:World}(hd:d.size<=140737488351232) :
  Calls Tryz.prog 214 #[.string p,.string d] w fun e w'=>e=.returned (.bool (within p.data.toList d.data.toList))/\w'=w:=by
 have C:=Tryz.strings_HasPrefix p (d++⟨#[47]⟩) w
 have HO:=hid (show Lib.hasPrefix p.data.toList (d++⟨#[47]⟩:ByteArray).data.toList=within p.data.toList d.data.toList by
  simp[Lib.hasPrefix,within])
 have hsz:((d.size:Int)+1)<=9223372036854775807:=by omega
 go_enter Tryz.func214,Tryz.ntmps214
 go_wp2_with fail
 refine C.mono ?_
 rintro e w1 ⟨rfl,rfl⟩
 go_wp2
 go_ret
 exact ⟨aAf HO.out,rfl⟩
theorem bAm {p d:ByteArray}{w:World}(hp:p.size<=140737488351232)(hd:d.size<=140737488351232) :
  Calls Tryz.prog 179 #[.string p,.string d] w fun e w'=>e=.returned (.bool (clashP p.data.toList d.data.toList))/\w'=w:=by
 by_cases h:p=d
 ·have e1:(p.toList == d.toList)=true:=by rw[h];exact beq_self_eq_true _
  have HO:=hid (show clashP p.data.toList d.data.toList=true by simp[clashP,h])
  clear h
  go_enter Tryz.func179,Tryz.ntmps179
  go_wp2
  go_ret
  exact ⟨aAf HO.out.symm,rfl⟩
 have e1:=aBw h
 have hn:decide (p.data.toList=d.data.toList)=false:=decide_eq_false fun e=>h (aCh e)
 have C1:=aMd (p:=p) (d:=d) (w:=w) hd
 have C2:=aMd (p:=d) (d:=p) (w:=w) hp
 have HO:=hid (show clashP p.data.toList d.data.toList=(within p.data.toList d.data.toList || within d.data.toList p.data.toList) by rw[clashP,hn,Bool.false_or])
 clear h hn
 cases h1:within p.data.toList d.data.toList with
 | true=>
  rw[h1] at C1
  have H1:=hid h1
  clear h1
  go_enter Tryz.func179,Tryz.ntmps179
  go_wp2_with fail
  refine C1.mono ?_
  rintro e w1 ⟨rfl,rfl⟩
  go_wp2
  go_ret
  exact ⟨aAf (by rw[HO.out,H1.out];rfl),rfl⟩
 | false=>
  rw[h1] at C1
  have H1:=hid h1
  clear h1
  go_enter Tryz.func179,Tryz.ntmps179
  go_wp2_with fail
  refine C1.mono ?_
  rintro e w1 ⟨rfl,rfl⟩
  go_wp2_with fail
  refine C2.mono ?_
  rintro e w1 ⟨rfl,rfl⟩
  go_wp2
  go_ret
  exact ⟨aAf (by rw[HO.out,H1.out];rfl),rfl⟩
def Passed (S:Bs->Bool)(p:ByteArray)(left:Lit->Bool):Prop:=∀q:ByteArray,q.size<=maxLen->S q.data.toList=true->left (klP q)=false->(!decide (q=p) && clashP q.data.toList p.data.toList)=false
def CloneIs (e:TypeId)(sz n:Nat)(xs:List Value)(w:World)(en:Ending) (w':World):Prop:=∃v,en=.returned v/\w'.ownsRow w.heap.size e sz v n xs/\Below w.heap.size w w'
theorem aNw {A:Option Addr}{n c:Nat}{l:List FV}{w:World}(hn:n<=1000000)(h:RdF w w.heap.size A n c l) :
  Calls Tryz.prog 112 #[.slice A n c] w (CloneIs 48 3 n (l.flatMap FV.cells) w):=by
 have q22:∀(w:World) (a:Option Addr) (n c n' c':Nat),(binOp .eql 29 (.slice a n c) (.slice none n' c')).run Tryz.prog w=.ok (.bool a.isNone) w:=fun w a n c n' c'=>Lib.run_eql_slice_nil w _ _ a n c n' c' Tryz.underlying29
 have hr:=h.row
 cases A with
 | none=>
  have hn0:n=0:=by
   rcases Nat.eq_zero_or_pos n with h0 | h0
   ·exact h0
   obtain ⟨b,o,e,_⟩:=hr.at_ h0;cases e
  subst hn0
  have hl:l.flatMap FV.cells=[]:=List.eq_nil_of_length_eq_zero (hr.len.trans (Nat.zero_mul 3))
  have HO:=hid hl
  go_enter Tryz.func112,Tryz.ntmps112
  go_wp2
  go_ret
  exact ⟨_,rfl,by rw[HO.out];exact World.ownsRow_nil _ _ _ _,Below.refl _ _⟩
 | some a=>
  have ho0:(w.alloc (.cells #[] 48)).ownsRow w.heap.size 48 3 (.slice (some ⟨w.heap.size,0,none⟩) 0 0) 0 []:=World.ownsRow_made w #[] 0 (Nat.le_refl _) (Nat.zero_le _) (by simp)
  have hb0:Below w.heap.size w (w.alloc (.cells #[] 48)):=(Below.refl _ _).alloc (Nat.le_refl _) _
  go_enter Tryz.func112,Tryz.ntmps112
  go_wp2_with (at_builtin;refine aAn rfl (.tmp 5) (.tmp 6) 29 rfl aCu rfl rfl ho0 (hr.below hb0) (aBn _) (by unfold maxLen;omega) (by omega) hb0.size ?_;intro v7 w7 ho7 hg7 hv7)
  rw[Nat.zero_add,List.nil_append] at ho7
  go_ret
  exact ⟨_,rfl,ho7,hb0.grown hg7 hb0.size (fun g hg=>(ho0.lt g hg).1)⟩
theorem aTy (w:World)(n c:Nat)(e:TypeId)(_h:c<n)(hn:n<=maxLen):n<=grownCap w n c e/\grownCap w n c e<=maxLen:=⟨grownCap_ge w _ _ _,grownCap_le_maxLen w n c e (by omega)⟩
theorem aCr {w w1:World}{g:Nat}{row:Option Nat}{cs:Array Value}(h:w.grownBy w1 row)(hg:w.heap.size<=g\/row=some g):w.grownBy (w1.setRow g cs) row:=
 ⟨h.os,h.tape,h.output,by have:=h.size;simpa[World.setRow] using this,fun k hk hne=>by
  rw[setRow_other _ _ _ _ (fun e=>by
   rcases hg with hg | hg
   ·omega
   exact hne (by rw[hg,e]))]
  exact h.block k hk hne⟩
theorem bBi {w:World}{g n c sz:Nat}{cur cs:Array Value}{e:TypeId}{xs:List Value}(hg:w.heap[g]? = some (.cells cur e (0,0)))(hn:n<=c)(hx:xs.length=n*sz)(hcs:∀(j:Nat)(u:Value),xs[j]? = some u->cs[j]? = some u) :
  Rd (w.setRow g cs) (w.setRow g cs).heap.size sz (some ⟨g,0,none⟩) n c xs:=by
 have hlt:g<w.heap.size:=(Array.getElem?_eq_some_iff.1 hg).1
 refine ⟨hx,hn,fun _=>⟨g,0,rfl,by simpa[World.setRow] using hlt,fun j u hu=>?_⟩⟩
 rw[Nat.zero_add,cell_of_row _ _ _ _ _ _ (setRow_heap _ _ _ _ _ _ hg)]
 exact hcs j u hu
theorem aAy {l r:List Value}{n:Nat}(h:l.take n=r){j:Nat}{u:Value}(hj:r[j]? = some u):l[j]? = some u:=by
 rw[<-h,List.getElem?_take] at hj
 split at hj
 ·exact hj
 cases hj
theorem aIo {P:Program}{w:World}{a:Act}{ops:Array Oper}{rest:List Oper}{o:Oper}{Q:Exit->Act->World->Prop}(hgd:o.guard=none)(t:TypeId)(x y:Operand)
  (ho:o.op=.store t x y) {g d:Nat} {e:TypeId} {cur cs:Array Value} (hi:(P.info? t).map (·.size)=some cs.size) (hx:a.eval x=.pointer (some ⟨g,d,none⟩)) (hy:a.eval y=.agg cs)
  (hg:w.heap[g]? = some (.cells cur e (0,0))) (hfit:d+cs.size<=cur.size) (h1:∀u∈cs.toList,u.oneCell'=true)
  (hK:wpList P ops Q rest (a.put o.dst undef) (w.setRow g (cur.toList.take d++cs.toList++cur.toList.drop (d+cs.size)).toArray)):wpList P ops Q (o::rest) a w:=by
 refine wpList_plain hgd fun K hK'=>?_
 have hr:=run_storeCells_at P g d e cs.toList 0 cur w hg (by simpa using hfit) h1
 obtain ⟨i,hi1,hi2⟩:=Option.map_eq_some_iff.1 hi
 unfold Oper.wp execOp
 have hst:(storeVar t ⟨g,d,none⟩ (.agg cs)).run P w=.ok () (w.setRow g (cur.toList.take d++cs.toList++cur.toList.drop (d+cs.size)).toArray):=by
  simp only[Nat.add_zero,Array.length_toList] at hr
  simp[storeVar,sizeOf,typeInfo,hi1,hi2,Value.cells,hr]
 simp only[ho,hx,hy,Instr.storeAt,Instr.sureAddr,Sem.run_bind,Sem.run_pure,Result.andThen_ok,hst]
 exact hK' _ _ hK
def OwnIs (e:TypeId)(sz n:Nat)(xs x:List Value)(w:World)(en:Ending) (w':World):Prop:=
 ∃g,en=.returned (.slice (some ⟨g,0,none⟩) n (n+3))/\w'.ownsRow w.heap.size e sz (.slice (some ⟨g,0,none⟩) (n+3) (n+3)) (n+3) (xs++(x++(x++x)))/\Below w.heap.size w w'
end Go.Proofs.YtohblmepajhpaaaGreatDoor
namespace Go.Proofs.YtohblmepajhpaaaGreatDoor
theorem aCn:treeOk []=true:=aAt.2 ⟨by simp,fun _ h=>by simp at h,fun i a b h=>by simp at h,fun _ h=>by simp at h⟩
theorem aGz (p:Bs):within p p=false:=by
 cases h:within p p with
 | false=>rfl
 | true=>exact absurd (aRj h) (Nat.lt_irrefl _)
theorem aDn (l:List FV)(f:FV):(sortedIn l f).length=l.length+1:=by
 have:=congrArg List.length (List.takeWhile_append_dropWhile (p:=lessF f) (l:=l))
 rw[List.length_append] at this
 rw[sortedIn,List.length_append,List.length_cons]
 omega
theorem bGf (l:List FV)(f:FV):(putF l f).1.length<=l.length+1:=by
 unfold putF
 have:=aDn l f
 have:=aDn (without l f.path) f
 have:=aHa l f.path
 repeat' split
 all_goals simp only[List.length_nil]<;>omega
def file71:FV:=⟨⟨#[55,49]⟩,false,⟨#[]⟩⟩
theorem bGo (x y:FV)(w:World):(binOp .neq 48 (.agg #[.string x.path,.bool x.exec,.string x.text]) (.agg #[.string y.path,.bool y.exec,.string y.text])).run Tryz.prog w=.ok (.bool (!decide (x=y))) w:=by
 rw[run_neq_struct,bBa];rfl
theorem aDe {l:List FV}{p:ByteArray}{g:FV}:g∈without l p↔g∈l/\g.path≠p:=by simp[without,List.mem_filter]
theorem aSx {l:List FV}(h:Rise l)(p:ByteArray):Rise (without l p):=aDp (h.pair.sublist List.filter_sublist)
theorem aBy {l:List FV}{f g:FV}:g∈sortedIn l f↔g=f\/g∈l:=by
 rw[sortedIn,List.mem_append,List.mem_cons]
 conv=>rhs;rw[<-List.takeWhile_append_dropWhile (p:=lessF f) (l:=l),List.mem_append]
 constructor
 ·rintro (h | h | h)
  ·exact .inr (.inl h)
  ·exact .inl h
  exact .inr (.inr h)
 rintro (h | h | h)
 ·exact .inr (.inl h)
 ·exact .inl h
 exact .inr (.inr h)
theorem aXd {l:List FV}{p:ByteArray}(h:hasP l p=false){g:FV}(hg:g∈l):g.path≠p:=fun e=>by
 have:=aDl.2 ⟨g,hg,e⟩
 rw[h] at this;cases this
theorem bCs {l:List FV}(hr:Rise l){f:FV}(hn:hasP l f.path=false):∃a b:List FV,l=a++b/\sortedIn l f=a++f::b/\(∀x∈a,x.p<f.p)/\∀x∈b,f.p<x.p:=by
 refine ⟨l.takeWhile (lessF f),l.dropWhile (lessF f),(List.takeWhile_append_dropWhile).symm,rfl,fun x hx=>?_,fun x hx=>?_⟩
 ·have:∀{l:List FV} {x:FV},x∈l.takeWhile (lessF f)->lessF f x=true:=by
   intro l
   induction l with
   | nil=>intro x h;cases h
   | cons y l ih=>
    intro x h
    rw[List.takeWhile_cons] at h
    split at h
    ·rename_i hy
     rcases List.mem_cons.1 h with rfl | h
     ·exact hy
     exact ih h
    cases h
  exact of_decide_eq_true (this hx)
 have:∀{l:List FV},(l.Pairwise fun a b=>a.p<b.p)->(∀y∈l,y.path≠f.path)->∀x∈l.dropWhile (lessF f),f.p<x.p:=by
  intro l
  induction l with
  | nil=>intro _ _ x h;cases h
  | cons y l ih=>
   intro hp hne x h
   have hp2:=List.pairwise_cons.1 hp
   rw[List.dropWhile_cons] at h
   split at h
   ·exact ih hp2.2 (fun z hz=>hne z (List.mem_cons_of_mem _ hz)) x h
   rename_i hy
   have hyf:f.p<y.p:=by
    rcases bHv y.p f.p with e | e | e
    ·exact absurd (decide_eq_true e) hy
    ·exact absurd (FV.p_inj.1 e) (hne y (by simp))
    exact e
   rcases List.mem_cons.1 h with rfl | h
   ·exact hyf
   exact aEr hyf (hp2.1 x h)
 exact this hr.pair (fun y hy=>aXd hn hy) x hx
theorem aEi {l:List FV}(hr:Rise l){f:FV}(hn:hasP l f.path=false):Rise (sortedIn l f):=by
 obtain ⟨a,b,e,e2,ha,hb⟩:=bCs hr hn
 have hp:=hr.pair
 rw[e,List.pairwise_append] at hp
 rw[e2]
 refine aDp (List.pairwise_append.2 ⟨hp.1,List.pairwise_cons.2 ⟨hb,hp.2.1⟩,fun x hx y hy=>?_⟩)
 rcases List.mem_cons.1 hy with rfl | hy
 ·exact ha x hx
 exact aEr (ha x hx) (hb y hy)
theorem aRi (l:List FV)(p:ByteArray):hasP (without l p) p=false:=by
 cases h:hasP (without l p) p with
 | false=>rfl
 | true=>
  obtain ⟨g,hg,e⟩:=aDl.1 h
  exact absurd e (aDe.1 hg).2
theorem aTb:∀{a b:List FV},(a.Pairwise fun x y=>x.p<y.p)->(b.Pairwise fun x y=>x.p<y.p)->(∀x,x∈a↔x∈b)->a=b
 | [],[],_,_,_=>rfl
 | [],y::b,_,_,h=>absurd ((h y).2 (by simp)) (by simp)
 | x::a,[],_,_,h=>absurd ((h x).1 (by simp)) (by simp)
 | x::a,y::b,ha,hb,h=>by
  have ha2:=List.pairwise_cons.1 ha
  have hb2:=List.pairwise_cons.1 hb
  have hxy:x=y:=by
   rcases List.mem_cons.1 ((h x).1 (by simp)) with e | h1
   ·exact e
   rcases List.mem_cons.1 ((h y).2 (by simp)) with e | h2
   ·exact e.symm
   exact absurd (aEr (ha2.1 y h2) (hb2.1 x h1)) (aGu _)
  subst hxy
  refine congrArg _ (aTb ha2.2 hb2.2 fun z=>?_)
  constructor
  ·intro hz
   rcases List.mem_cons.1 ((h z).1 (by simp[hz])) with e | h1
   ·subst e;exact absurd (ha2.1 _ hz) (aGu _)
   exact h1
  intro hz
  rcases List.mem_cons.1 ((h z).2 (by simp[hz])) with e | h1
  ·subst e;exact absurd (hb2.1 _ hz) (aGu _)
  exact h1
structure PutOk (l:List FV) (f:FV):Prop where
 tree:treeOk l=true
 path:pathOk f.p=true
 text:f.text.size<=20000
 clash:clashF l f.path=false
 room:hasP l f.path=true\/l.length<100
theorem bEa {l:List FV}(h:treeOk l=true){p:ByteArray}(hp:hasP l p=true):clashF l p=false:=by
 obtain ⟨g,hg,e⟩:=aDl.1 hp
 obtain ⟨_,_,h3,h4⟩:=aAt.1 h
 cases hc:clashF l p with
 | false=>rfl
 | true=>
  simp only[clashF,List.any_eq_true,Bool.and_eq_true] at hc
  obtain ⟨x,hx,h1,h2⟩:=hc
  have hne:¬x.path=p:=by simpa using h1
  have e2:p.data.toList=g.p:=by rw[<-e];rfl
  rw[e2] at h2
  simp only[clashP,h4 x hx g hg,h4 g hg x hx,Bool.or_false,decide_eq_true_eq] at h2
  exact absurd ((FV.p_inj.1 h2).trans e) hne
theorem bDr {l:List FV}{f:FV}(h:PutOk l f):putF l f=(sortedIn (without l f.path) f,0):=by
 have h1:¬treeOk l=false:=by rw[h.tree];decide
 have h2:¬pathOk f.p=false:=by rw[h.path];decide
 have h3:¬20000<f.text.size:=Nat.not_lt.2 h.text
 rw[putF,if_neg h1,if_neg h2,if_neg h3]
 by_cases e:hasP l f.path=true
 ·rw[if_pos e]
 have e2:hasP l f.path=false:=by simpa using e
 have h5:¬100<=l.length:=by rcases h.room with h | h;exact absurd h e;omega
 have h4:¬clashF l f.path=true:=by rw[h.clash];decide
 rw[if_neg e,if_neg h4,if_neg h5,aKl e2]
theorem bDb {l:List FV}{f:FV}(h:¬PutOk l f):(putF l f).2≠0/\(putF l f).1=[]:=by
 unfold putF
 split
 ·exact ⟨by decide,rfl⟩
 split
 ·exact ⟨by decide,rfl⟩
 split
 ·exact ⟨by decide,rfl⟩
 rename_i a b c
 have a':treeOk l=true:=by simpa using a
 have b':pathOk f.p=true:=by simpa using b
 have c':f.text.size<=20000:=by omega
 split
 ·rename_i d
  exact absurd ⟨a',b',c',bEa a' d,.inl d⟩ h
 split
 ·exact ⟨by decide,rfl⟩
 split
 ·exact ⟨by decide,rfl⟩
 rename_i d e g
 exact absurd ⟨a',b',c',by simpa using e,.inr (by omega)⟩ h
theorem PutOk.tree_put {l:List FV}{f:FV}(h:PutOk l f):treeOk (sortedIn (without l f.path) f)=true:=by
 obtain ⟨h1,h2,h3,h4⟩:=aAt.1 h.tree
 have hc:∀g∈without l f.path,clashP g.p f.p=false:=fun g hg=>by
  obtain ⟨h5,h6⟩:=aDe.1 hg
  have h7:=List.any_eq_false.1 h.clash g h5
  have h8:clashP g.p f.path.data.toList=false:=by simpa[h6] using h7
  exact h8
 refine aAt.2 ⟨?_,fun g hg=>?_,aEi (aSx h3 _) (aRi l f.path),fun a ha b hb=>?_⟩
 ·rw[aDn]
  rcases h.room with hp | hp
  ·obtain ⟨g,hg,e⟩:=aDl.1 hp
   have:(without l f.path).length<l.length:=List.length_filter_lt_length_iff_exists.2 ⟨g,hg,by simp[e]⟩
   omega
  have:=aHa l f.path
  omega
 ·rcases aBy.1 hg with rfl | hg
  ·exact ⟨h.path,h.text⟩
  exact h2 g (aDe.1 hg).1
 rcases aBy.1 ha with rfl | ha
 ·rcases aBy.1 hb with rfl | hb
  ·exact aGz _
  have:=hc b hb
  simp only[clashP,Bool.or_eq_false_iff] at this
  exact this.2
 rcases aBy.1 hb with rfl | hb
 ·have:=hc a ha
  simp only[clashP,Bool.or_eq_false_iff] at this
  exact this.1.2
 exact h4 a (aDe.1 ha).1 b (aDe.1 hb).1
noncomputable def playStep (out:List FV) (f:FV):List FV:=if 2000<f.text.size then out else if (putF out f).2=0 then (putF out f).1 else out
noncomputable def playF (l:List FV):List FV:=(l.take 30).foldl playStep []
theorem aUj {out:List FV}(h:treeOk out=true)(f:FV):treeOk (playStep out f)=true/\(playStep out f).length<=out.length+1:=by
 unfold playStep
 split
 ·exact ⟨h,by omega⟩
 split
 ·rename_i h2
  by_cases hk:PutOk out f
  ·refine ⟨?_,bGf out f⟩
   rw[bDr hk];exact hk.tree_put
  exact absurd h2 (bDb hk).1
 exact ⟨h,by omega⟩
theorem aEs:∀(l:List FV) {out:List FV},treeOk out=true->treeOk (l.foldl playStep out)=true/\(l.foldl playStep out).length<=out.length+l.length
 | [],_,h=>⟨h,by simp⟩
 | f::l,out,h=>by
  obtain ⟨h1,h2⟩:=aUj h f
  obtain ⟨h3,h4⟩:=aEs l h1
  refine ⟨h3,?_⟩
  rw[List.foldl_cons,List.length_cons];omega
theorem aWd (l:List FV):treeOk (playF l)=true:=(aEs _ aCn).1
theorem aIc (l:List FV):(playF l).length<=30:=by
 have h1:=(aEs (l.take 30) aCn).2
 have h2:=List.length_take_le 30 l
 simp only[List.length_nil] at h1
 unfold playF
 omega
def kindF (b o t:List ByteArray):Int:=if o=b then 3 else if t=b then 2 else if o=t then 4 else 5
def betweenF (b o t:List ByteArray):List KV:=if b.length+o.length+t.length=0 then [] else [⟨kindF b o t,b,o,t⟩]
def runF:List (Option Nat×Option Nat)->Nat->Nat->Nat
 | (some x,some y)::zs,p,q=>if x=p/\y=q then runF zs (p+1) (q+1)+1 else 0
 | _,_,_=>0
def goF (base ours theirs:List ByteArray)(zs:List (Option Nat×Option Nat)):Nat->Nat->Nat->Nat->Nat->List KV
 | 0,_,b,o,t=>betweenF (base.drop b) (ours.drop o) (theirs.drop t)
 | fuel+1,i,b,o,t=>
  match zs[i]? with
  | none=>betweenF (base.drop b) (ours.drop o) (theirs.drop t)
  | some (some x,some y)=>
   let n:=runF (zs.drop (i+1)) (x+1) (y+1)+1
   betweenF (sliceF base b i) (sliceF ours o x) (sliceF theirs t y)++⟨1,sliceF base i (i+n),sliceF base i (i+n),sliceF base i (i+n)⟩::goF base ours theirs zs fuel (i+n) (i+n) (x+n) (y+n)
  | some _=>goF base ours theirs zs fuel (i+1) b o t
def chunksF (base ours theirs:List ByteArray):List KV:=goF base ours theirs ((placeF base ours).zip (placeF base theirs)) base.length 0 0 0 0
def cleanF (l:List KV):Bool:=l.all fun c=>decide (c.kind≠5)
def mergedF (l:List KV):List ByteArray:=l.flatMap fun c=>if c.kind=3 then c.theirs else c.ours
def endedF (s:Bs):Bs:=if s=[]\/s.getLast? = some 10 then s else s++[10]
def markO:Bs:=[60,60,60,60,60,60,60,32,111,117,114,115,10]
def markB:Bs:=[124,124,124,124,124,124,124,32,98,97,115,101,10]
def markT:Bs:=[61,61,61,61,61,61,61,10]
def markE:Bs:=[62,62,62,62,62,62,62,32,116,104,101,105,114,115,10]
def catF (l:List ByteArray):Bs:=l.flatMap fun x=>x.data.toList
def clashTextF (out:Bs)(c:KV):Bs:=if c.kind≠5 then out++catF (mergedF [c]) else
 endedF (endedF (endedF (endedF out++markO++catF c.ours)++markB++catF c.base)++markT++catF c.theirs)++markE
def merge3F (b o t:ByteArray):ByteArray×Bool:=
 let l:=chunksF (linesF b) (linesF o) (linesF t)
 if cleanF l=true then (joinF (mergedF l),true) else (ofB (l.foldl clashTextF []),false)
def ratioF (a b:ByteArray):Int:=
 let x:=linesF a;let y:=linesF b
 if 400<x.length\/400<y.length then 0 else if x.length+y.length=0 then 100 else ((200*lcs x y / (x.length+y.length):Nat):Int)
def loneF (l other:List FV):List Nat:=(List.range l.length).filter fun i=>match l[i]? with
 | some f=>(findP other f.path).isNone && !decide (f.text=⟨#[]⟩)
 | none=>false
def textAt (l:List FV)(i:Nat):ByteArray:=((l[i]?).map FV.text).getD ⟨#[]⟩
def sameF (base side:List FV):List Nat->List Nat->List (Nat×Nat)×List Nat×List Nat
 | [],js=>([],[],js)
 | i::is,js=>
  match js.find? fun j=>decide (textAt side j=textAt base i) with
  | some j=>let r:=sameF base side is (js.filter fun k=>decide (k≠j));((i,j)::r.1,r.2.1,r.2.2)
  | none=>let r:=sameF base side is js;(r.1,i::r.2.1,r.2.2)
def bestF (base side:List FV)(is js:List Nat):Option (Nat×Nat):=
 ((is.flatMap fun i=>js.map fun j=>(i,j)).foldl (fun (b:Option (Nat×Nat)×Int) p=>let r:=ratioF (textAt base p.1) (textAt side p.2);if b.2<r then (some p,r) else b) (none,49)).1
def alikeF (base side:List FV):Nat->List Nat->List Nat->List (Nat×Nat)
 | 0,_,_=>[]
 | n+1,is,js=>
  match bestF base side is js with
  | none=>[]
  | some p=>p::alikeF base side n (is.filter fun k=>decide (k≠p.1)) (js.filter fun k=>decide (k≠p.2))
def pairsF (base side:List FV):List (Nat×Nat):=
 let s:=sameF base side (loneF base side) (loneF side base)
 s.1++alikeF base side s.2.1.length s.2.1 s.2.2
def movedF (base side:List FV)(p:ByteArray):Option ByteArray:=
 ((pairsF base side).find? fun q=>decide (((base[q.1]?).map FV.path)=some p)).bind fun q=>(side[q.2]?).map FV.path
structure CL where
 path:ByteArray
 kind:Int
 text:ByteArray
deriving DecidableEq
def whereF (base side:List FV)(f:FV):Option FV:=
 match findP side f.path with
 | some x=>some x
 | none=>(movedF base side f.path).bind fun d=>findP side d
def addedF (base side:List FV):List FV:=side.filter fun f=>(findP base f.path).isNone && !((pairsF base side).any fun q=>decide (((side[q.2]?).map FV.path)=some f.path))
def putM (m:List FV×List CL)(f:FV)(kind:Int):List FV×List CL:=
 if (m.1.any fun x=>clashP x.p f.p)=true then (m.1,m.2++[⟨f.path,5,f.text⟩])
 else (m.1++[f],if kind=0 then m.2 else m.2++[⟨f.path,kind,f.text⟩])
def bothM (m:List FV×List CL)(f o t:FV):List FV×List CL:=
 let path:=if o.path=f.path then t.path else o.path
 let kind:Int:=if o.path=f.path then 0 else if t.path≠f.path/\t.path≠o.path then 4 else 0
 let exec:=if o.exec=f.exec then t.exec else o.exec
 let r:=merge3F f.text o.text t.text
 putM m ⟨path,exec,r.1⟩ (if r.2=false/\kind=0 then 1 else kind)
def keptM (base a b:List FV)(m:List FV×List CL)(f:FV):List FV×List CL:=
 match whereF base a f,whereF base b f with
 | some x,some y=>bothM m f x y
 | some x,none=>if x=f then m else putM m x 3
 | none,some y=>if y=f then m else putM m y 3
 | none,none=>m
def addOne (theirs:List FV)(m:List FV×List CL)(x:FV):List FV×List CL:=
 match findP theirs x.path with
 | none=>putM m x 0
 | some y=>if x=y then putM m x 0 else putM m ⟨x.path,x.exec,(merge3F ⟨#[]⟩ x.text y.text).1⟩ 2
def addM (ours theirs:List FV)(m:List FV×List CL):List FV×List CL:=
 (theirs.filter fun y=>(findP ours y.path).isNone).foldl (fun m y=>putM m y 0) (ours.foldl (addOne theirs) m)
def wholeF (base a b:List FV):List FV×List CL:=addM (addedF base a) (addedF base b) (base.foldl (keptM base a b) ([],[]))
def sortC (l:List CL):List CL:=l.foldl (fun out c=>out.takeWhile (fun x=>decide (x.path.data.toList<=c.path.data.toList))++c::out.dropWhile (fun x=>decide (x.path.data.toList<=c.path.data.toList))) []
def sortF (l:List FV):List FV:=l.foldl (fun out f=>sortedIn out f) []
noncomputable def treemergeF (base a b:List FV):List FV×List CL×Int:=
 if treeOk base=false\/treeOk a=false\/treeOk b=false then ([],[],5) else
 if treeOk (sortF (wholeF base a b).1)=false then ([],[],6) else (sortF (wholeF base a b).1,sortC (wholeF base a b).2,0)
end Go.Proofs.YtohblmepajhpaaaGreatDoor
