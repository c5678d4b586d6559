/- Texts of the walks, together: Walks: the document's Put and Drop. Contracts of the library at this seat, laid by the shelf, in plain words. Walks: the program's Within, Clash, and clashes with a set of paths. Walks: slices.Clone of files; what copies do. Walks: files copied, with room behind them, and held against what they were. -/
import Derived.Shelf.Strings.Prefix
import Derived.Test.YtcemkikgaeghjaaGreatDoorRows
import Derived.Maps.RangeWalk
import Derived.Laws.CopyRow
import Derived.Laws.Externs
import Derived.Lib.AppendZeros
import Derived.Lib.AppendZerosOnto
import Derived.Lib.Overlaps
import Derived.Lib.SliceRun
import Derived.OwnWalk
import Derived.Test.YtcemkikgaeghjaaGreatDoorG07
set_option maxHeartbeats 8000000
set_option maxRecDepth 100000
open Go.Lib (hid)
namespace Go.Proofs.YtcemkikgaeghjaaGreatDoor
open Go.RowKit
def FilesErr (r:List FV×Int)(w:World)(e:Ending) (w':World):Prop:=
 ∃(A:Option Addr) (c:Nat),e=.returned (.tuple #[.slice A r.1.length c,.int .i64 r.2])/\RdF w' w'.heap.size A r.1.length c r.1/\Below w.heap.size w w'
theorem aBr {l:List FV}(h:treeOk l=true):l.length<=100:=(aAv.1 h).1
theorem aHr (l:List FV)(p:ByteArray):(without l p).length<=l.length:=List.length_filter_le _ _
theorem aTk (l:List FV)(p:ByteArray):(findP l p).isSome=hasP l p:=by
 cases h:findP l p with
 | none=>rw[aKe.1 h];rfl
 | some f=>rw[(aEd.2 ⟨f,aEj h⟩)];rfl
def FilesErrN (r:List FV×Int)(w:World)(e:Ending) (w':World):Prop:=
 ∃(A:Option Addr) (c:Nat),e=.returned (.tuple #[.slice A r.1.length c,.int .i64 r.2])/\RdF w' w'.heap.size A r.1.length c r.1/\Below w.heap.size w w'/\NewAt A w.heap.size
theorem aCi {r:List FV×Int}{k:Int} {w w':World}(h:r=([],k))(hb:Below w.heap.size w w'):FilesErrN r w (.returned (.tuple #[.slice none 0 0,.int .i64 k])) w':=by
 subst h
 exact ⟨none,0,rfl,RdF.none_ _ _,hb,NewAt.none_ _⟩
theorem aKp {r:List FV×Int}{A:Option Addr}{c n:Nat}{l:List FV} {w w':World}(hn:l.length=n)(h:r=(l,0))(hr:RdF w' w'.heap.size A n c l)(hb:Below w.heap.size w w')(hN:NewAt A w.heap.size):FilesErrN r w (.returned (.tuple #[.slice A n c,.int .i64 0])) w':=by
 subst h
 subst hn
 exact ⟨A,c,rfl,hr,hb,hN⟩
theorem bDy {A:Option Addr}{n c:Nat}{l:List FV}{f:FV}{w:World}(hn:n<=17592186044416)(h:RdF w w.heap.size A n c l)(hff:f.path.size<=140737488351232/\f.text.size<=140737488351232) :
  Calls Tryz.prog 22 #[.slice A n c,.agg #[.string f.path,.bool f.exec,.string f.text]] w (FilesErrN (putF l f) w):=by
 have HL:=hid h.len
 obtain ⟨W,hW⟩:∃u,u=w.alloc (.cells #[.string f.path,.bool f.exec,.string f.text] 28):=⟨_,rfl⟩
 have hbW:Below w.heap.size w W:=by rw[hW];exact (Below.refl _ _).alloc (Nat.le_refl _) _
 have hzW:W.heap.size=w.heap.size+1:=by rw[hW];simp
 have hx:∀i u,f.cells[i]? = some u->∀u',Below W.heap.size W u'->u'.cell? ⟨w.heap.size,i,none⟩=some u:=fun i u hu u' hu'=>
  (hu'.cell (p:=⟨w.heap.size,i,none⟩) (by show w.heap.size<_;omega)).trans (by rw[hW,World.cell?,heap_alloc_new];simpa[FV.cells] using hu)
 have XB:=hid hx
 clear hx
 have UP:∀u,Below W.heap.size W u->Below w.heap.size w u:=fun u hu=>hbW.trans (hu.mono hbW.size)
 have MORE:∀{u v:World},Below W.heap.size W u->Below u.heap.size u v->Below W.heap.size W v:=fun h1 h2=>h1.trans (h2.mono h1.size)
 have RD:∀u,Below W.heap.size W u->RdF u u.heap.size A n c l:=fun u hu=>h.to (UP u hu) (UP u hu).size
 go_enter Tryz.func22,Tryz.ntmps22
 go_wp2_with fail
 rw[<-hW]
 clear hW
 refine (aEk hn (RD W (Below.refl _ _))).mono ?_
 rintro e w1 ⟨rfl,hb1⟩
 cases ht:treeOk l with
 | false=>
  have HP:=hid (show putF l f=([],5) by simp[putF,ht])
  clear ht
  go_wp2
  go_ret2
  exact aCi HP.out (UP _ hb1)
 | true=>
 have hlen:=aBr ht
 rw[HL.out] at hlen
 have HT:=hid ht
 clear ht
 have x0:=XB.out 0 _ rfl w1 hb1
 go_wp2_with fail
 refine (aRi (s:=f.path)).mono ?_
 rintro e w2 ⟨rfl,hv⟩
 have hb2:=MORE hb1 hv
 clear hb1 hv x0
 have hp0:pathOk f.path.data.toList=pathOk f.p:=rfl
 rw[hp0]
 clear hp0
 cases hp:pathOk f.p with
 | false=>
  have HP:=hid (show putF l f=([],11) by simp[putF,HT.out,hp])
  clear hp
  go_wp2
  go_ret2
  exact aCi HP.out (UP _ hb2)
 | true=>
 have HK:=hid hp
 clear hp
 have x2:=XB.out 2 _ rfl w2 hb2
 by_cases hz:20000<f.text.size
 ·have HP:=hid (show putF l f=([],6) by simp[putF,HT.out,HK.out,hz])
  go_wp2
  go_ret2
  exact aCi HP.out (UP _ hb2)
 have x0:=XB.out 0 _ rfl w2 hb2
 go_wp2_with fail
 refine (aDy hn (RD _ hb2)).mono ?_
 rintro e w3 ⟨rfl,hv⟩
 have hb3:=MORE hb2 hv
 clear hb2 hv x0 x2
 obtain ⟨w4,hw4⟩:∃u,u=w3.alloc (.cells #[.string (optF (findP l f.path)).path,.bool (optF (findP l f.path)).exec,.string (optF (findP l f.path)).text] 28):=⟨_,rfl⟩
 have hb4:Below W.heap.size W w4:=by rw[hw4];exact hb3.alloc hb3.size _
 have x0:(w3.alloc (.cells #[.string (optF (findP l f.path)).path,.bool (optF (findP l f.path)).exec,.string (optF (findP l f.path)).text] 28)).cell? ⟨w.heap.size,0,none⟩=some (.string f.path):=by rw[<-hw4];exact XB.out 0 _ rfl w4 hb4
 rw[aTk]
 go_wp2_with fail
 rw[<-hw4]
 clear x0 hw4 hb3
 refine (aUm (p:=f.path) (by omega) (RD _ hb4)).mono ?_
 rintro e w5 ⟨A5,c5,l5,rfl,rfl,hr5,hv⟩
 have hb5:=MORE hb4 hv
 clear hb4 hv
 have hl5:=aHr l f.path
 rw[HL.out] at hl5
 have x0:=XB.out 0 _ rfl w5 hb5
 cases hh:hasP l f.path with
 | true=>
  have HP:=hid (show putF l f=(sortedIn (without l f.path) f,0) by simp[putF,HT.out,HK.out,hz,hh])
  clear hh
  have x1:=XB.out 1 _ rfl w5 hb5
  have x2:=XB.out 2 _ rfl w5 hb5
  generalize hm:(without l f.path).length=m at *
  go_wp2_with fail
  refine (aGe (f:=f) (by omega) hr5 hff).mono ?_
  rintro e w6 ⟨A6,c6,l6,rfl,rfl,hr6,hv,hN6⟩
  have HS5:=hid hb5
  have hb6:=MORE hb5 hv
  clear x0 x1 x2
  go_wp2
  go_ret2
  exact aKp rfl HP.out hr6 (UP _ hb6) (fun b o s hA=>Nat.le_trans (UP _ HS5.out).size (hN6 b o s hA))
 | false=>
  have HW:=hid (aLb hh)
  go_wp2_with fail
  refine (aLa (p:=f.path) hn (by unfold maxLen;omega) (RD _ hb5)).mono ?_
  rintro e w6 ⟨rfl,hv⟩
  have hb6:=MORE hb5 hv
  have hr6:=hr5.to hv hv.size
  clear hb5 hr5 hv x0
  cases hc:clashF l f.path with
  | true=>
   have HP:=hid (show putF l f=([],11) by simp[putF,HT.out,HK.out,hz,hh,hc])
   clear hh hc
   go_wp2
   go_ret2
   exact aCi HP.out (UP _ hb6)
  | false=>
   by_cases hbig:100<=n
   ·have HP:=hid (show putF l f=([],6) by simp[putF,HT.out,HK.out,hz,hh,hc,HL.out,hbig])
    clear hh hc
    go_wp2
    go_ret2
    exact aCi HP.out (UP _ hb6)
   have HP:=hid (show putF l f=(sortedIn (without l f.path) f,0) by simp[putF,HT.out,HK.out,hz,hh,hc,HL.out,hbig,HW.out])
   clear hh hc
   have x0:=XB.out 0 _ rfl w6 hb6
   have x1:=XB.out 1 _ rfl w6 hb6
   have x2:=XB.out 2 _ rfl w6 hb6
   generalize hm:(without l f.path).length=m at *
   go_wp2_with fail
   refine (aGe (f:=f) (by omega) hr6 hff).mono ?_
   rintro e w7 ⟨A7,c7,l7,rfl,rfl,hr7,hv,hN7⟩
   have HS6:=hid hb6
   have hb7:=MORE hb6 hv
   clear x0 x1 x2
   go_wp2
   go_ret2
   exact aKp rfl HP.out hr7 (UP _ hb7) (fun b o s hA=>Nat.le_trans (UP _ HS6.out).size (hN7 b o s hA))
end Go.Proofs.YtcemkikgaeghjaaGreatDoor
namespace Go.Proofs.YtcemkikgaeghjaaGreatDoor
open Go.Shelf
def Tryz.lays99_ren:Go.Shelf.Ren:=⟨fun | 99=>163 | 206=>186 | n=>n,fun | 9=>9 | 4=>4 | 3=>3 | n=>n,fun | n=>n⟩
theorem Tryz.lays99:Go.Proofs.Lays.n99 Tryz.prog Tryz.lays99_ren:={
 mixed:=by kernel_rfl
 f99:=Tryz.func163.trans (congrArg some (by kernel_rfl))
 f206:=Tryz.func186.trans (congrArg some (by kernel_rfl))
 t3:=Tryz.underlying3
 a3:=Tryz.isAgg3
 z3:=Tryz.sizeOf3
 v3:=Tryz.zeroValue3
 t4:=Tryz.underlying4
 a4:=Tryz.isAgg4
 z4:=Tryz.sizeOf4
 v4:=Tryz.zeroValue4
 t9:=Tryz.underlying9
 a9:=Tryz.isAgg9
 z9:=Tryz.sizeOf9
 v9:=Tryz.zeroValue9 }
open Go.RowKit Go.Lib in
theorem Tryz.strings_HasPrefix (s p:ByteArray)(w:World) :
  Calls Tryz.prog 163 #[.string s,.string p] w fun e w'=>e=.returned (.bool (Lib.hasPrefix s.data.toList p.data.toList))/\w'=w:=Any.strings_HasPrefix Tryz.lays99 s p w
def Tryz.lays100_ren:Go.Shelf.Ren:=⟨fun | 100=>139 | 207=>172 | n=>n,fun | 9=>9 | 4=>4 | 3=>3 | n=>n,fun | n=>n⟩
theorem Tryz.lays100:Go.Proofs.Lays.n100 Tryz.prog Tryz.lays100_ren:={
 mixed:=by kernel_rfl
 f100:=Tryz.func139.trans (congrArg some (by kernel_rfl))
 f207:=Tryz.func172.trans (congrArg some (by kernel_rfl))
 t3:=Tryz.underlying3
 a3:=Tryz.isAgg3
 z3:=Tryz.sizeOf3
 v3:=Tryz.zeroValue3
 t4:=Tryz.underlying4
 a4:=Tryz.isAgg4
 z4:=Tryz.sizeOf4
 v4:=Tryz.zeroValue4
 t9:=Tryz.underlying9
 a9:=Tryz.isAgg9
 z9:=Tryz.sizeOf9
 v9:=Tryz.zeroValue9 }
open Go.RowKit Go.Lib in
theorem Tryz.strings_HasSuffix (s p:ByteArray)(w:World)(hs:s.size<=9223372036854775807) :
  Calls Tryz.prog 139 #[.string s,.string p] w fun e w'=>e=.returned (.bool (Lib.hasSuffix s.data.toList p.data.toList))/\w'=w:=Any.strings_HasSuffix Tryz.lays100 s p w hs
end Go.Proofs.YtcemkikgaeghjaaGreatDoor
namespace Go.Proofs.YtcemkikgaeghjaaGreatDoor
open Go.RowKit
theorem aMt {p d:ByteArray}{w:World}(hd:d.size<=140737488351232) :
  Calls Tryz.prog 129 #[.string p,.string d] w fun e w'=>e=.returned (.bool (within p.data.toList d.data.toList))/\w'=w:=by
 have C:=Tryz.strings_HasPrefix p (d++⟨#[47]⟩) w
 have HO:=hid (show Lib.hasPrefix p.data.toList (d++⟨#[47]⟩:ByteArray).data.toList=within p.data.toList d.data.toList by
  simp[Lib.hasPrefix,within])
 have hsz:((d.size:Int)+1)<=9223372036854775807:=by omega
 go_enter Tryz.func129,Tryz.ntmps129
 go_wp2_with fail
 refine C.mono ?_
 rintro e w1 ⟨rfl,rfl⟩
 go_wp2
 go_ret
 exact ⟨aAl HO.out,rfl⟩
theorem aYh {p d:ByteArray}{w:World}(hp:p.size<=140737488351232)(hd:d.size<=140737488351232) :
  Calls Tryz.prog 92 #[.string p,.string d] w fun e w'=>e=.returned (.bool (clashP p.data.toList d.data.toList))/\w'=w:=by
 by_cases h:p=d
 ·have e1:(p.toList == d.toList)=true:=by rw[h];exact beq_self_eq_true _
  have HO:=hid (show clashP p.data.toList d.data.toList=true by simp[clashP,h])
  clear h
  go_enter Tryz.func92,Tryz.ntmps92
  go_wp2
  go_ret
  exact ⟨aAl HO.out.symm,rfl⟩
 have e1:=aBe h
 have hn:decide (p.data.toList=d.data.toList)=false:=decide_eq_false fun e=>h (aCb e)
 have C1:=aMt (p:=p) (d:=d) (w:=w) hd
 have C2:=aMt (p:=d) (d:=p) (w:=w) hp
 have HO:=hid (show clashP p.data.toList d.data.toList=(within p.data.toList d.data.toList || within d.data.toList p.data.toList) by rw[clashP,hn,Bool.false_or])
 clear h hn
 cases h1:within p.data.toList d.data.toList with
 | true=>
  rw[h1] at C1
  have H1:=hid h1
  clear h1
  go_enter Tryz.func92,Tryz.ntmps92
  go_wp2_with fail
  refine C1.mono ?_
  rintro e w1 ⟨rfl,rfl⟩
  go_wp2
  go_ret
  exact ⟨aAl (by rw[HO.out,H1.out];rfl),rfl⟩
 | false=>
  rw[h1] at C1
  have H1:=hid h1
  clear h1
  go_enter Tryz.func92,Tryz.ntmps92
  go_wp2_with fail
  refine C1.mono ?_
  rintro e w1 ⟨rfl,rfl⟩
  go_wp2_with fail
  refine C2.mono ?_
  rintro e w1 ⟨rfl,rfl⟩
  go_wp2
  go_ret
  exact ⟨aAl (by rw[HO.out,H1.out];rfl),rfl⟩
def Passed (S:Bs->Bool)(p:ByteArray)(left:Lit->Bool):Prop:=∀q:ByteArray,q.size<=maxLen->S q.data.toList=true->left (klP q)=false->(!decide (q=p) && clashP q.data.toList p.data.toList)=false
def CloneIs (e:TypeId)(sz n:Nat)(xs:List Value)(w:World)(en:Ending) (w':World):Prop:=∃v,en=.returned v/\w'.ownsRow w.heap.size e sz v n xs/\Below w.heap.size w w'
theorem aZf {A:Option Addr}{n c:Nat}{l:List FV}{w:World}(hn:n<=1000000)(h:RdF w w.heap.size A n c l) :
  Calls Tryz.prog 62 #[.slice A n c] w (CloneIs 28 3 n (l.flatMap FV.cells) w):=by
 have q22:∀(w:World) (a:Option Addr) (n c n' c':Nat),(binOp .eql 22 (.slice a n c) (.slice none n' c')).run Tryz.prog w=.ok (.bool a.isNone) w:=fun w a n c n' c'=>Lib.run_eql_slice_nil w _ _ a n c n' c' Tryz.underlying22
 have hr:=h.row
 cases A with
 | none=>
  have hn0:n=0:=by
   rcases Nat.eq_zero_or_pos n with h0 | h0
   ·exact h0
   obtain ⟨b,o,e,_⟩:=hr.at_ h0;cases e
  subst hn0
  have hl:l.flatMap FV.cells=[]:=List.eq_nil_of_length_eq_zero (hr.len.trans (Nat.zero_mul 3))
  have HO:=hid hl
  go_enter Tryz.func62,Tryz.ntmps62
  go_wp2
  go_ret
  exact ⟨_,rfl,by rw[HO.out];exact World.ownsRow_nil _ _ _ _,Below.refl _ _⟩
 | some a=>
  have ho0:(w.alloc (.cells #[] 28)).ownsRow w.heap.size 28 3 (.slice (some ⟨w.heap.size,0,none⟩) 0 0) 0 []:=World.ownsRow_made w #[] 0 (Nat.le_refl _) (Nat.zero_le _) (by simp)
  have hb0:Below w.heap.size w (w.alloc (.cells #[] 28)):=(Below.refl _ _).alloc (Nat.le_refl _) _
  go_enter Tryz.func62,Tryz.ntmps62
  go_wp2_with (at_builtin;refine aAm rfl (.tmp 5) (.tmp 6) 22 rfl aCm rfl rfl ho0 (hr.below hb0) (aBi _) (by unfold maxLen;omega) (by omega) hb0.size ?_;intro v7 w7 ho7 hg7 hv7)
  rw[Nat.zero_add,List.nil_append] at ho7
  go_ret
  exact ⟨_,rfl,ho7,hb0.grown hg7 hb0.size (fun g hg=>(ho0.lt g hg).1)⟩
theorem aUr (w:World)(n c:Nat)(e:TypeId)(_h:c<n)(hn:n<=maxLen):n<=grownCap w n c e/\grownCap w n c e<=maxLen:=⟨grownCap_ge w _ _ _,grownCap_le_maxLen w n c e (by omega)⟩
theorem aDc {w w1:World}{g:Nat}{row:Option Nat}{cs:Array Value}(h:w.grownBy w1 row)(hg:w.heap.size<=g\/row=some g):w.grownBy (w1.setRow g cs) row:=
 ⟨h.os,h.tape,h.output,by have:=h.size;simpa[World.setRow] using this,fun k hk hne=>by
  rw[setRow_other _ _ _ _ (fun e=>by
   rcases hg with hg | hg
   ·omega
   exact hne (by rw[hg,e]))]
  exact h.block k hk hne⟩
theorem bDh {w:World}{g n c sz:Nat}{cur cs:Array Value}{e:TypeId}{xs:List Value}(hg:w.heap[g]? = some (.cells cur e (0,0)))(hn:n<=c)(hx:xs.length=n*sz)(hcs:∀(j:Nat)(u:Value),xs[j]? = some u->cs[j]? = some u) :
  Rd (w.setRow g cs) (w.setRow g cs).heap.size sz (some ⟨g,0,none⟩) n c xs:=by
 have hlt:g<w.heap.size:=(Array.getElem?_eq_some_iff.1 hg).1
 refine ⟨hx,hn,fun _=>⟨g,0,rfl,by simpa[World.setRow] using hlt,fun j u hu=>?_⟩⟩
 rw[Nat.zero_add,cell_of_row _ _ _ _ _ _ (setRow_heap _ _ _ _ _ _ hg)]
 exact hcs j u hu
theorem aBj {l r:List Value}{n:Nat}(h:l.take n=r){j:Nat}{u:Value}(hj:r[j]? = some u):l[j]? = some u:=by
 rw[<-h,List.getElem?_take] at hj
 split at hj
 ·exact hj
 cases hj
theorem aIy {P:Program}{w:World}{a:Act}{ops:Array Oper}{rest:List Oper}{o:Oper}{Q:Exit->Act->World->Prop}(hgd:o.guard=none)(t:TypeId)(x y:Operand)
  (ho:o.op=.store t x y) {g d:Nat} {e:TypeId} {cur cs:Array Value} (hi:(P.info? t).map (·.size)=some cs.size) (hx:a.eval x=.pointer (some ⟨g,d,none⟩)) (hy:a.eval y=.agg cs)
  (hg:w.heap[g]? = some (.cells cur e (0,0))) (hfit:d+cs.size<=cur.size) (h1:∀u∈cs.toList,u.oneCell'=true)
  (hK:wpList P ops Q rest (a.put o.dst undef) (w.setRow g (cur.toList.take d++cs.toList++cur.toList.drop (d+cs.size)).toArray)):wpList P ops Q (o::rest) a w:=by
 refine wpList_plain hgd fun K hK'=>?_
 have hr:=run_storeCells_at P g d e cs.toList 0 cur w hg (by simpa using hfit) h1
 obtain ⟨i,hi1,hi2⟩:=Option.map_eq_some_iff.1 hi
 unfold Oper.wp execOp
 have hst:(storeVar t ⟨g,d,none⟩ (.agg cs)).run P w=.ok () (w.setRow g (cur.toList.take d++cs.toList++cur.toList.drop (d+cs.size)).toArray):=by
  simp only[Nat.add_zero,Array.length_toList] at hr
  simp[storeVar,sizeOf,typeInfo,hi1,hi2,Value.cells,hr]
 simp only[ho,hx,hy,Instr.storeAt,Instr.sureAddr,Sem.run_bind,Sem.run_pure,Result.andThen_ok,hst]
 exact hK' _ _ hK
theorem bBc {P:Program}{w:World}{a:Act}{ops:Array Oper}{rest:List Oper}{o:Oper}{Q:Exit->Act->World->Prop}(hgd:o.guard=none)(l c:Operand)(t:TypeId)
  (ho:o.op=.makeSlice t l c) {e:TypeId} {size bytes:Nat} (E:Elem P t e size bytes) (base n:Nat)
  {C:Int} (hl:a.eval l=.int .i64 0) (hc:a.eval c=.int .i64 C) (hC:C=(n:Int)) (hb:bytes*n<=281474976710656) (h63:n<=maxLen) (hbase:base<=w.heap.size)
  (hK:∀w',w'.ownsRow base e size (.slice (some ⟨w.heap.size,0,none⟩) 0 n) 0 []->w.grownBy w' none->wpList P ops Q rest (a.put o.dst (.slice (some ⟨w.heap.size,0,none⟩) 0 n)) w') :
  wpList P ops Q (o::rest) a w:=by
 obtain ⟨i,z,hi,hz,hsz,hby,hzs⟩:=E.row
 exact wpList_make_own w hgd l c t ho base e i z size E.und hi hz hsz .i64 .i64 C n hl hc hC (by rw[hby];exact hb) h63 hbase hK
theorem bEu {P:Program}{w:World}{ops:Array Oper}{rest:List Oper}{o:Oper}{a:Act}{Q:Exit->Act->World->Prop}(hgd:o.guard=none)(s x:Operand)(t:TypeId)
  (ho:o.op=.call { callee:=.builtin .append,args:=#[s,x],argTypes:=#[t,t] }) {e:TypeId} {size bytes:Nat} (E:Elem P t e size bytes) {base:Nat}
  {g k cap:Nat} {xs:List Value} {B:Nat} {A:Option Addr} {m c:Nat} {news:List Value}
  (hs:a.eval s=.slice (some ⟨g,0,none⟩) k cap) (hx:a.eval x=.slice A m c) (hown:w.ownsRow base e size (.slice (some ⟨g,0,none⟩) k cap) k xs) (hr:Rd w B size A m c news) (h1:∀u∈news,u.oneCell'=true)
  (hroom:k+m<=cap)
  (hK:∀w',w'.ownsRow base e size (.slice (some ⟨g,0,none⟩) (k+m) cap) (k+m) (xs++news)->w.grownBy w' (some g)->wpList P ops Q rest (a.put o.dst (.slice (some ⟨g,0,none⟩) (k+m) cap)) w') :
  wpList P ops Q (o::rest) a w:=by
 obtain ⟨i,z,hi,hz,hsz,hby,hzs⟩:=E.row
 rcases Nat.eq_zero_or_pos m with rfl | hm
 ·have hn:news=[]:=List.eq_nil_of_length_eq_zero (by simpa using hr.len)
  subst hn
  cases A with
  | some ad=>exact wpList_append_fits w hgd s x t ho base e i size E.und hi hsz g k cap xs hs hown ad 0 c [] hx (by simp) (by simp) h1 hroom hK
  | none=>
   refine wpList_plain hgd fun K hK'=>?_
   have hk:k<=cap:=by omega
   unfold Oper.wp
   have hrun:(Builtin.append_ #[t,t] o.type #[.slice (some ⟨g,0,none⟩) k cap,.slice none 0 c]).run P w=.ok (.slice (some ⟨g,0,none⟩) k cap) w:=by
    simp[Builtin.append_,run_underlying E.und,sizeOf,typeInfo,hi,Builtin.lenOf,Builtin.firstCells,hk,storeCells]
   simp[execOp,ho,resolve,invoke,builtin,hs,hx,hrun,Result.andThen]
   exact hK' _ _ (by simpa using hK w (by simpa using hown) (World.grownBy.refl _ _))
 obtain ⟨b,o',rfl,_,hc⟩:=hr.at_ hm
 exact wpList_append_fits w hgd s x t ho base e i size E.und hi hsz g k cap xs hs hown ⟨b,o',none⟩ m c news hx hr.len (fun j u hu=>by
  have hadd:(⟨b,o',none⟩:Addr).add j=⟨b,o'+j,none⟩:=by unfold Addr.add;split<;>simp_all
  rw[hadd];exact hc j u hu) h1 hroom hK
theorem aQv {w:World}{base:Nat}{e:TypeId}{size g n cap:Nat}{xs:List Value}(h:w.ownsRow base e size (.slice (some ⟨g,0,none⟩) n cap) n xs) :
  ∃ys,ys.length=(cap-n)*size/\w.ownsRow base e size (.slice (some ⟨g,0,none⟩) cap cap) cap (xs++ys):=by
 rcases h.2 with ⟨h',_⟩ | ⟨g',cap',cur,h',hb,hg,hnc,hcm,hcs,htake⟩
 ·simp at h'
 simp only[Value.slice.injEq,Option.some.injEq,Addr.mk.injEq,and_true,true_and] at h'
 obtain ⟨rfl,rfl⟩:=h'
 refine ⟨cur.toList.drop (n*size),?_,?_,.inr ⟨g,cap,cur,rfl,hb,hg,Nat.le_refl _,hcm,hcs,?_⟩⟩
 ·rw[List.length_drop,Array.length_toList,hcs,Nat.sub_mul]
 ·rw[<-htake,List.take_append_drop,Array.length_toList,hcs]
 rw[<-htake,List.take_append_drop,List.take_of_length_le (by rw[Array.length_toList,hcs];exact Nat.le_refl _)]
def OwnIs (e:TypeId)(sz n:Nat)(xs x:List Value)(w:World)(en:Ending) (w':World):Prop:=
 ∃g,en=.returned (.slice (some ⟨g,0,none⟩) n (n+3))/\w'.ownsRow w.heap.size e sz (.slice (some ⟨g,0,none⟩) (n+3) (n+3)) (n+3) (xs++(x++(x++x)))/\Below w.heap.size w w'
theorem fillK {xs ys fc:List Value}{n k s:Nat}(hx:xs.length=n*s)(hf:fc.length=s)(_hk:(k+1)*s<=ys.length) :
  (xs++((List.replicate k fc).flatten++ys.drop (k*s))).take ((n+k)*s)++fc++(xs++((List.replicate k fc).flatten++ys.drop (k*s))).drop ((n+k)*s+s)=xs++((List.replicate (k+1) fc).flatten++ys.drop ((k+1)*s)):=by
 have h1:(xs++(List.replicate k fc).flatten).length=(n+k)*s:=by rw[List.length_append,hx,List.length_flatten,List.map_replicate,List.sum_replicate_nat,hf,Nat.add_mul]
 rw[<-List.append_assoc,List.take_append_of_le_length (by omega),List.take_of_length_le (by omega),List.drop_append,List.drop_of_length_le (by omega),h1,List.nil_append,List.drop_drop,List.replicate_succ']
 rw[show k*s+((n+k)*s+s-(n+k)*s)=(k+1)*s by rw[Nat.succ_mul];omega]
 simp
theorem aWv {A:Option Addr}{n c:Nat}{l:List FV}{f:FV}{w:World}(hn:n<=1000000)(ha:Rd w w.heap.size 3 A n c (l.flatMap FV.cells)) :
  Calls Tryz.prog 13 #[.slice A n c,.agg #[.string f.path,.bool f.exec,.string f.text]] w (OwnIs 28 3 n (l.flatMap FV.cells) f.cells w):=by
 have HL:=hid (show (l.flatMap FV.cells).length=n*3 from ha.len)
 have hi24:(Tryz.prog.info? 28).map (·.size)=some 3:=by kernel_rfl
 obtain ⟨W,hW⟩:∃u,u=w.alloc (.cells #[.string f.path,.bool f.exec,.string f.text] 28):=⟨_,rfl⟩
 have hbW:Below w.heap.size w W:=by rw[hW];exact (Below.refl _ _).alloc (Nat.le_refl _) _
 have hzW:W.heap.size=w.heap.size+1:=by rw[hW];simp
 have hx:∀i u,f.cells[i]? = some u->∀u',Below W.heap.size W u'->u'.cell? ⟨w.heap.size,i,none⟩=some u:=fun i u hu u' hu'=>
  (hu'.cell (p:=⟨w.heap.size,i,none⟩) (by show w.heap.size<_;omega)).trans (by rw[hW,World.cell?,heap_alloc_new];simpa[FV.cells] using hu)
 have XB:=hid hx
 clear hx
 have haW:=ha.to hbW hbW.size
 have HzW:=hid hzW
 clear hzW
 go_enter Tryz.func13,Tryz.ntmps13
 go_wp2_with (first
  | (rw[<-hW];refine bBc rfl (.const (.int .i64 0)) (.tmp 10) 22 rfl aCm W.heap.size (n+3) rfl rfl (by omega) (by omega) (by simp only[maxLen];omega) (Nat.le_refl _) ?_;intro w1 ho1 hg1;rw[HzW.out] at ho1)
  | (at_builtin;refine bEu rfl (.tmp 12) (.tmp 13) 22 rfl aCm rfl rfl ho1 (haW.below ((Below.refl _ _).grown hg1 (Nat.le_refl _) (fun g hg=>by cases hg))) (aBi _) (by omega) ?_;intro w2 ho2 hg2))
 rw[Nat.zero_add,List.nil_append] at ho2
 clear hW
 have hb2:Below W.heap.size W w2:=((Below.refl _ _).grown hg1 (Nat.le_refl _) (fun g hg=>by cases hg)).grown hg2 hg1.size (fun g hg=>by cases hg;have:=HzW.out;omega)
 obtain ⟨ys,hy,ho⟩:=aQv ho2
 have hyl:ys.length=9:=by omega
 rcases ho.2 with ⟨h0,_⟩ | ⟨g,cap,cur,h0,hgb,hg,hnc,hcm,hcs,htake⟩
 ·simp at h0
 simp only[Value.slice.injEq,Option.some.injEq,Addr.mk.injEq,and_true,true_and] at h0
 obtain ⟨rfl,rfl⟩:=h0
 have hcur:cur=(l.flatMap FV.cells++ys).toArray:=by
  rw[<-htake,List.take_of_length_le (by rw[Array.length_toList];omega)]
 subst hcur
 have HG:=hid hg
 clear ho1 hg1 ho2 hg2 ho hg htake hcs hy hgb
 go_loopw[7] (fun i wr=>∃k:Nat,k<=3/\i=.int .i64 ((n+k:Nat):Int)/\Hid (wr.heap[w.heap.size+1]? = some (.cells (l.flatMap FV.cells++((List.replicate k f.cells).flatten++ys.drop (k*3))).toArray 28 (0,0)))/\Below W.heap.size W wr)
   (fun i _=>n+3-(intOf i).toNat)
 case atStart=>exact ⟨0,by omega,rfl,hid (by simpa using HG.out),hb2⟩
 clear HG
 obtain ⟨k,hk,rfl,HO,hbw⟩:=hrel
 by_cases hlt:k<3
 ·have x0:=XB.out 0 _ rfl wr hbw
  have x1:=XB.out 1 _ rfl wr hbw
  have x2:=XB.out 2 _ rfl wr hbw
  have hsz:(l.flatMap FV.cells++((List.replicate k f.cells).flatten++ys.drop (k*3))).toArray.size=(n+3)*3:=by
   have:f.cells.length=3:=rfl
   simp only[List.size_toArray,List.length_append,HL.out,List.length_flatten,List.map_replicate,List.sum_replicate_nat,List.length_drop,hyl,this]
   omega
  have HS:=hid (fun cs=>setRow_heap wr (w.heap.size+1) _ cs _ _ HO.out)
  have hbw':∀cs,Below W.heap.size W (wr.setRow (w.heap.size+1) cs):=fun cs=>aAk hbw (by have:=HzW.out;omega)
  have HFl:=hid (fillK (ys:=ys) (k:=k) HL.out (show f.cells.length=3 from rfl) (by omega))
  have HQ:=hid (show ((l.flatMap FV.cells++((List.replicate k f.cells).flatten++ys.drop (k*3))).toArray.toList.take ((n+k)*3)++#[Value.string f.path,.bool f.exec,.string f.text].toList++(l.flatMap FV.cells++((List.replicate k f.cells).flatten++ys.drop (k*3))).toArray.toList.drop ((n+k)*3+#[Value.string f.path,.bool f.exec,.string f.text].size)).toArray=(l.flatMap FV.cells++((List.replicate (k+1) f.cells).flatten++ys.drop ((k+1)*3))).toArray from congrArg List.toArray HFl.out)
  go_wp2_with (refine aIy rfl 28 (.tmp 31) (.tmp 30) rfl (cs:=#[.string f.path,.bool f.exec,.string f.text]) hi24 rfl rfl HO.out (by rw[hsz];show (n+k)*3+3<=_;omega) (aBi [f]) ?_;rw[HQ.out])
  refine ⟨⟨k+1,by omega,by go_num,HS.out _,hbw' _⟩,by simp[intOf];omega⟩
 obtain rfl:k=3:=by omega
 have HE:=hid HO.out
 have hcm':=hcm
 go_wp2
 go_ret
 refine ⟨w.heap.size+1,rfl,⟨?_,.inr ⟨w.heap.size+1,n+3,_,rfl,by omega,HE.out,Nat.le_refl _,by unfold maxLen;omega,?_,?_⟩⟩,hbW.trans (hbw.mono hbW.size)⟩
 ·have:f.cells.length=3:=rfl
  simp only[List.length_append,HL.out,this];omega
 ·have:f.cells.length=3:=rfl
  simp only[List.size_toArray,List.length_append,HL.out,List.length_flatten,List.map_replicate,List.sum_replicate_nat,List.length_drop,hyl,this];omega
 have:f.cells.length=3:=rfl
 rw[List.take_of_length_le (by simp only[List.length_append,HL.out,List.length_flatten,List.map_replicate,List.sum_replicate_nat,List.length_drop,hyl,this];omega)]
 rw[List.drop_of_length_le (by omega)]
 simp[List.replicate]
theorem aQr {w:World}{B g n k sz:Nat}{xs ys:List Value}(h:Rd w B sz (some ⟨g,0,none⟩) (n+k) (n+k) (xs++ys))(hx:xs.length=n*sz)(hk:0<k):Rd w B sz (some ⟨g,0,none⟩) n (n+k) xs:=
 ⟨hx,by omega,fun h0=>by
  obtain ⟨b,o,e,hb,hc⟩:=h.at_ (by omega)
  refine ⟨b,o,e,hb,fun j u hu=>hc j u ?_⟩
  rw[List.getElem?_append_left (List.getElem?_eq_some_iff.1 hu).1]
  exact hu⟩
theorem aTn {A:Option Addr}{g n c BB:Nat}{l:List FV}{f:FV}{w:World}(hn:n<=1000000)(hBB:BB<=w.heap.size)
  (hi:Rd w BB 3 (some ⟨g,0,none⟩) (n+3) (n+3) (l.flatMap FV.cells++(f.cells++(f.cells++f.cells)))) (ha:Rd w BB 3 A n c (l.flatMap FV.cells)) (hln:l.length=n) :
  Calls Tryz.prog 18 #[.slice (some ⟨g,0,none⟩) n (n+3),.slice A n c,.agg #[.string f.path,.bool f.exec,.string f.text]] w (BoolBelow true w):=by
 have HL:=hid (show (l.flatMap FV.cells).length=n*3 from ha.len)
 have hr:=aQr (k:=3) hi ha.len (by omega)
 obtain ⟨b0,o0,e0,hb0,hc0⟩:=hi.at_ (by omega)
 cases e0
 obtain ⟨W,hW⟩:∃u,u=w.alloc (.cells #[.string f.path,.bool f.exec,.string f.text] 28):=⟨_,rfl⟩
 have hbW:Below w.heap.size w W:=by rw[hW];exact (Below.refl _ _).alloc (Nat.le_refl _) _
 have hzW:W.heap.size=w.heap.size+1:=by rw[hW];simp
 have hx:∀i u,f.cells[i]? = some u->∀u',Below W.heap.size W u'->u'.cell? ⟨w.heap.size,i,none⟩=some u:=fun i u hu u' hu'=>
  (hu'.cell (p:=⟨w.heap.size,i,none⟩) (by show w.heap.size<_;omega)).trans (by rw[hW,World.cell?,heap_alloc_new];simpa[FV.cells] using hu)
 have XB:=hid hx
 clear hx
 have C:=aKh (w:=W) (by omega) (by omega) (hr.to (hbW.mono hBB) (by omega)) (ha.to (hbW.mono hBB) (by omega)) hln hln
 rw[decide_eq_true (rfl:l=l)] at C
 go_enter Tryz.func18,Tryz.ntmps18
 go_wp2_with fail
 rw[<-hW]
 clear hW hzW
 refine C.mono ?_
 rintro e w1 ⟨rfl,hb1⟩
 have hw1:Below w.heap.size w w1:=hbW.trans (hb1.mono hbW.size)
 have HC:=hid (show ∀k t u,k<3->f.cells[t]? = some u->w1.cell? ⟨g,(n+k)*3+t,none⟩=some u from fun k t u hk hu=>by
  have ht:t<3:=by have:=(List.getElem?_eq_some_iff.1 hu).1;exact this
  rw[hw1.cell (p:=⟨g,(n+k)*3+t,none⟩) (by show g<_;omega)]
  have d0:=hc0 ((n+k)*3+t) u (by
   rw[List.getElem?_append_right (by rw[HL.out];omega),HL.out,show (n+k)*3+t-n*3=k*3+t by omega]
   obtain rfl | rfl | rfl:k=0\/k=1\/k=2:=by omega
   ·rw[List.getElem?_append_left (by show _<3;omega),Nat.zero_mul,Nat.zero_add];exact hu
   ·rw[List.getElem?_append_right (by show 3<=_;omega),List.getElem?_append_left (by show _-3<3;omega)]
    show f.cells[1*3+t-3]? = _
    rw[show 1*3+t-3=t by omega];exact hu
   rw[List.getElem?_append_right (by show 3<=_;omega),List.getElem?_append_right (by show 3<=_-3;omega)]
   show f.cells[2*3+t-3-3]? = _
   rw[show 2*3+t-3-3=t by omega];exact hu)
  simpa using d0)
 have HB:=hid hw1
 have HB1:=hid hb1
 clear hc0 hb1 hr hw1 C
 go_wp2
 go_loopw[8] (fun i wr=>Below W.heap.size W wr/\(∀p:Addr,wr.cell? p=w1.cell? p)/\Below w.heap.size w wr/\∃k:Nat,k<=3/\i=.int .i64 ((n+k:Nat):Int)) (fun i _=>n+3-(intOf i).toNat)
 case atStart=>exact ⟨HB1.out,fun _=>rfl,HB.out,0,by omega,rfl⟩
 obtain ⟨hbx,hs,hbw,k,hk,rfl⟩:=hrel
 have HS:=hid hs
 clear hs
 by_cases hlt:k<3
 ·go_wp2
  refine aAd (fun w'=>Below W.heap.size W w'/\∀p:Addr,w'.cell? p=w1.cell? p) [(true,0),(true,1),(true,2),(true,3),(true,4),(false,5)] mixed (by kernel_rfl) ⟨hbx.drew,HS.out⟩ ?_
  intro T M Q hT hT' hM hQ
  have m0:M ⟨g,(n+k)*3,none⟩=some (.string f.path):=hM _ _ fun w' hw=>(hw.2 _).trans (HC.out k 0 _ hlt rfl)
  have m1:M ⟨g,(n+k)*3+1,none⟩=some (.bool f.exec):=hM _ _ fun w' hw=>(hw.2 _).trans (HC.out k 1 _ hlt rfl)
  have m2:M ⟨g,(n+k)*3+2,none⟩=some (.string f.text):=hM _ _ fun w' hw=>(hw.2 _).trans (HC.out k 2 _ hlt rfl)
  have x0:M ⟨w.heap.size,0,none⟩=some (.string f.path):=hM _ _ fun w' hw=>XB.out 0 _ rfl w' hw.1
  have x1:M ⟨w.heap.size,1,none⟩=some (.bool f.exec):=hM _ _ fun w' hw=>XB.out 1 _ rfl w' hw.1
  have x2:M ⟨w.heap.size,2,none⟩=some (.string f.text):=hM _ _ fun w' hw=>XB.out 2 _ rfl w' hw.1
  clear hM
  simp only[qcmp]
  simp (maxSteps:=9^7) only[↓qpre,aAb,aAf,aAc,m0,m1,m2,x0,x1,x2]
  refine ⟨⟨by omega,by omega⟩,bGg rfl rfl (by kernel_rfl) (aUk f f _) ⟨hT _ ⟨hbx.drew,HS.out⟩,?_⟩⟩
  rw[decide_eq_true (rfl:f=f)]
  simp (maxSteps:=9^7) only[aAb,aAc]
  refine hQ _ _ ?_
  clear hQ hT hT' m0 m1 m2 x0 x1 x2
  have hs':∀p:Addr,wr.drew.cell? p=w1.cell? p:=HS.out
  have HS':=hid hs'
  have hbd:=hbw.drew
  have hbxd:=hbx.drew
  clear hs'
  go_wp2
  go_roundw
  case rel=>exact ⟨hbxd,HS'.out,hbd,k+1,by omega,by go_num⟩
  simp[intOf];omega
 obtain rfl:k=3:=by omega
 go_wp2
 go_ret
 exact ⟨rfl,hbw⟩
end Go.Proofs.YtcemkikgaeghjaaGreatDoor
