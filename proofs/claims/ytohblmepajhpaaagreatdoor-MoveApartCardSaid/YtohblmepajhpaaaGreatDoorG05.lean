/- Texts of the walks, together: Walks: the document's Put and Drop. Contracts of the library at this seat, laid by the shelf, in plain words. Walks: the program's Within, Clash, and clashes with a set of paths. Walks: slices.Clone of files; what copies do. Walks: files copied, with room behind them, and held against what they were. Plain laws of trees: what is put is there, what is dropped is gone, others stay; a tree stays one. Plain laws: three texts in pieces (chunk.Of), in one (merge3.Merge); renames; three trees in one. What the program computes, as functions of lists. Plain laws: where the lines of base that are kept stand. Plain laws: the pieces of three texts make the texts; where one side is as base, the whole is the other one; where both are alike, that. Plain laws: a text merged with one that is as base is the other one; two alike are that; exchanged. Plain laws: texts exchanged; pairs of files that moved. Plain law: where one side has all as base has it, the whole is the other one, without a clash. Plain laws: the merge of trees as a row of puts; with the sides exchanged. -/
import Derived.Shelf.Strings.Prefix
import Derived.Test.YtohblmepajhpaaaGreatDoorRows
import Derived.Maps.RangeWalk
import Derived.Laws.CopyRow
import Derived.Laws.Externs
import Derived.Lib.AppendZeros
import Derived.Lib.AppendZerosOnto
import Derived.Lib.Overlaps
import Derived.Lib.SliceRun
import Derived.OwnWalk
import Derived.Test.YtohblmepajhpaaaGreatDoorG02
import Derived.Test.YtohblmepajhpaaaGreatDoorG04
set_option maxHeartbeats 8000000
set_option maxRecDepth 100000
open Go.Lib (hid)
namespace Go.Proofs.YtohblmepajhpaaaGreatDoor
open Go.RowKit
def FilesErr (r:List FV×Int)(w:World)(e:Ending) (w':World):Prop:=
 ∃(A:Option Addr) (c:Nat),e=.returned (.tuple #[.slice A r.1.length c,.int .i64 r.2])/\RdF w' w'.heap.size A r.1.length c r.1/\Below w.heap.size w w'
theorem aDm {l:List FV}(h:treeOk l=true):l.length<=100:=(aAx.1 h).1
theorem aKg (l:List FV)(p:ByteArray):(without l p).length<=l.length:=List.length_filter_le _ _
theorem aOq (l:List FV)(p:ByteArray):(findP l p).isSome=hasP l p:=by
 cases h:findP l p with
 | none=>rw[aMh.1 h];rfl
 | some f=>rw[(aGj.2 ⟨f,aEz h⟩)];rfl
def FilesErrN (r:List FV×Int)(w:World)(e:Ending) (w':World):Prop:=
 ∃(A:Option Addr) (c:Nat),e=.returned (.tuple #[.slice A r.1.length c,.int .i64 r.2])/\RdF w' w'.heap.size A r.1.length c r.1/\Below w.heap.size w w'/\NewAt A w.heap.size
theorem aBs {r:List FV×Int}{k:Int} {w w':World}(h:r=([],k))(hb:Below w.heap.size w w'):FilesErrN r w (.returned (.tuple #[.slice none 0 0,.int .i64 k])) w':=by
 subst h
 exact ⟨none,0,rfl,RdF.none_ _ _,hb,NewAt.none_ _⟩
theorem aIs {r:List FV×Int}{A:Option Addr}{c n:Nat}{l:List FV} {w w':World}(hn:l.length=n)(h:r=(l,0))(hr:RdF w' w'.heap.size A n c l)(hb:Below w.heap.size w w')(hN:NewAt A w.heap.size):FilesErrN r w (.returned (.tuple #[.slice A n c,.int .i64 0])) w':=by
 subst h
 subst hn
 exact ⟨A,c,rfl,hr,hb,hN⟩
theorem bBk {A:Option Addr}{n c:Nat}{l:List FV}{f:FV}{w:World}(hn:n<=17592186044416)(h:RdF w w.heap.size A n c l)(hff:f.path.size<=140737488351232/\f.text.size<=140737488351232) :
  Calls Tryz.prog 23 #[.slice A n c,.agg #[.string f.path,.bool f.exec,.string f.text]] w (FilesErrN (putF l f) w):=by
 have HL:=hid h.len
 obtain ⟨W,hW⟩:∃u,u=w.alloc (.cells #[.string f.path,.bool f.exec,.string f.text] 48):=⟨_,rfl⟩
 have hbW:Below w.heap.size w W:=by rw[hW];exact (Below.refl _ _).alloc (Nat.le_refl _) _
 have hzW:W.heap.size=w.heap.size+1:=by rw[hW];simp
 have hx:∀i u,f.cells[i]? = some u->∀u',Below W.heap.size W u'->u'.cell? ⟨w.heap.size,i,none⟩=some u:=fun i u hu u' hu'=>
  (hu'.cell (p:=⟨w.heap.size,i,none⟩) (by show w.heap.size<_;omega)).trans (by rw[hW,World.cell?,heap_alloc_new];simpa[FV.cells] using hu)
 have XB:=hid hx
 clear hx
 have UP:∀u,Below W.heap.size W u->Below w.heap.size w u:=fun u hu=>hbW.trans (hu.mono hbW.size)
 have MORE:∀{u v:World},Below W.heap.size W u->Below u.heap.size u v->Below W.heap.size W v:=fun h1 h2=>h1.trans (h2.mono h1.size)
 have RD:∀u,Below W.heap.size W u->RdF u u.heap.size A n c l:=fun u hu=>h.to (UP u hu) (UP u hu).size
 go_enter Tryz.func23,Tryz.ntmps23
 go_wp2_with fail
 rw[<-hW]
 clear hW
 refine (aXf hn (RD W (Below.refl _ _))).mono ?_
 rintro e w1 ⟨rfl,hb1⟩
 cases ht:treeOk l with
 | false=>
  have HP:=hid (show putF l f=([],5) by simp[putF,ht])
  clear ht
  go_wp2
  go_ret2
  exact aBs HP.out (UP _ hb1)
 | true=>
 have hlen:=aDm ht
 rw[HL.out] at hlen
 have HT:=hid ht
 clear ht
 have x0:=XB.out 0 _ rfl w1 hb1
 go_wp2_with fail
 refine (aQq (s:=f.path)).mono ?_
 rintro e w2 ⟨rfl,hv⟩
 have hb2:=MORE hb1 hv
 clear hb1 hv x0
 have hp0:pathOk f.path.data.toList=pathOk f.p:=rfl
 rw[hp0]
 clear hp0
 cases hp:pathOk f.p with
 | false=>
  have HP:=hid (show putF l f=([],11) by simp[putF,HT.out,hp])
  clear hp
  go_wp2
  go_ret2
  exact aBs HP.out (UP _ hb2)
 | true=>
 have HK:=hid hp
 clear hp
 have x2:=XB.out 2 _ rfl w2 hb2
 by_cases hz:20000<f.text.size
 ·have HP:=hid (show putF l f=([],6) by simp[putF,HT.out,HK.out,hz])
  go_wp2
  go_ret2
  exact aBs HP.out (UP _ hb2)
 have x0:=XB.out 0 _ rfl w2 hb2
 go_wp2_with fail
 refine (aLl hn (RD _ hb2)).mono ?_
 rintro e w3 ⟨rfl,hv⟩
 have hb3:=MORE hb2 hv
 clear hb2 hv x0 x2
 obtain ⟨w4,hw4⟩:∃u,u=w3.alloc (.cells #[.string (optF (findP l f.path)).path,.bool (optF (findP l f.path)).exec,.string (optF (findP l f.path)).text] 48):=⟨_,rfl⟩
 have hb4:Below W.heap.size W w4:=by rw[hw4];exact hb3.alloc hb3.size _
 have x0:(w3.alloc (.cells #[.string (optF (findP l f.path)).path,.bool (optF (findP l f.path)).exec,.string (optF (findP l f.path)).text] 48)).cell? ⟨w.heap.size,0,none⟩=some (.string f.path):=by rw[<-hw4];exact XB.out 0 _ rfl w4 hb4
 rw[aOq]
 go_wp2_with fail
 rw[<-hw4]
 clear x0 hw4 hb3
 refine (aTa (p:=f.path) (by omega) (RD _ hb4)).mono ?_
 rintro e w5 ⟨A5,c5,l5,rfl,rfl,hr5,hv⟩
 have hb5:=MORE hb4 hv
 clear hb4 hv
 have hl5:=aKg l f.path
 rw[HL.out] at hl5
 have x0:=XB.out 0 _ rfl w5 hb5
 cases hh:hasP l f.path with
 | true=>
  have HP:=hid (show putF l f=(sortedIn (without l f.path) f,0) by simp[putF,HT.out,HK.out,hz,hh])
  clear hh
  have x1:=XB.out 1 _ rfl w5 hb5
  have x2:=XB.out 2 _ rfl w5 hb5
  generalize hm:(without l f.path).length=m at *
  go_wp2_with fail
  refine (aMy (f:=f) (by omega) hr5 hff).mono ?_
  rintro e w6 ⟨A6,c6,l6,rfl,rfl,hr6,hv,hN6⟩
  have HS5:=hid hb5
  have hb6:=MORE hb5 hv
  clear x0 x1 x2
  go_wp2
  go_ret2
  exact aIs rfl HP.out hr6 (UP _ hb6) (fun b o s hA=>Nat.le_trans (UP _ HS5.out).size (hN6 b o s hA))
 | false=>
  have HW:=hid (aRh hh)
  go_wp2_with fail
  refine (aQd (p:=f.path) hn (by unfold maxLen;omega) (RD _ hb5)).mono ?_
  rintro e w6 ⟨rfl,hv⟩
  have hb6:=MORE hb5 hv
  have hr6:=hr5.to hv hv.size
  clear hb5 hr5 hv x0
  cases hc:clashF l f.path with
  | true=>
   have HP:=hid (show putF l f=([],11) by simp[putF,HT.out,HK.out,hz,hh,hc])
   clear hh hc
   go_wp2
   go_ret2
   exact aBs HP.out (UP _ hb6)
  | false=>
   by_cases hbig:100<=n
   ·have HP:=hid (show putF l f=([],6) by simp[putF,HT.out,HK.out,hz,hh,hc,HL.out,hbig])
    clear hh hc
    go_wp2
    go_ret2
    exact aBs HP.out (UP _ hb6)
   have HP:=hid (show putF l f=(sortedIn (without l f.path) f,0) by simp[putF,HT.out,HK.out,hz,hh,hc,HL.out,hbig,HW.out])
   clear hh hc
   have x0:=XB.out 0 _ rfl w6 hb6
   have x1:=XB.out 1 _ rfl w6 hb6
   have x2:=XB.out 2 _ rfl w6 hb6
   generalize hm:(without l f.path).length=m at *
   go_wp2_with fail
   refine (aMy (f:=f) (by omega) hr6 hff).mono ?_
   rintro e w7 ⟨A7,c7,l7,rfl,rfl,hr7,hv,hN7⟩
   have HS6:=hid hb6
   have hb7:=MORE hb6 hv
   clear x0 x1 x2
   go_wp2
   go_ret2
   exact aIs rfl HP.out hr7 (UP _ hb7) (fun b o s hA=>Nat.le_trans (UP _ HS6.out).size (hN7 b o s hA))
end Go.Proofs.YtohblmepajhpaaaGreatDoor
namespace Go.Proofs.YtohblmepajhpaaaGreatDoor
open Go.Shelf
def Tryz.lays99_ren:Go.Shelf.Ren:=⟨fun | 99=>258 | 206=>284 | n=>n,fun | 9=>9 | 4=>4 | 3=>3 | n=>n,fun | n=>n⟩
theorem Tryz.lays99:Go.Proofs.Lays.n99 Tryz.prog Tryz.lays99_ren:={
 mixed:=by kernel_rfl
 f99:=Tryz.func258.trans (congrArg some (by kernel_rfl))
 f206:=Tryz.func284.trans (congrArg some (by kernel_rfl))
 t3:=Tryz.underlying3
 a3:=Tryz.isAgg3
 z3:=Tryz.sizeOf3
 v3:=Tryz.zeroValue3
 t4:=Tryz.underlying4
 a4:=Tryz.isAgg4
 z4:=Tryz.sizeOf4
 v4:=Tryz.zeroValue4
 t9:=Tryz.underlying9
 a9:=Tryz.isAgg9
 z9:=Tryz.sizeOf9
 v9:=Tryz.zeroValue9 }
open Go.RowKit Go.Lib in
theorem Tryz.strings_HasPrefix (s p:ByteArray)(w:World) :
  Calls Tryz.prog 258 #[.string s,.string p] w fun e w'=>e=.returned (.bool (Lib.hasPrefix s.data.toList p.data.toList))/\w'=w:=Any.strings_HasPrefix Tryz.lays99 s p w
def Tryz.lays100_ren:Go.Shelf.Ren:=⟨fun | 100=>224 | 207=>267 | n=>n,fun | 9=>9 | 4=>4 | 3=>3 | n=>n,fun | n=>n⟩
theorem Tryz.lays100:Go.Proofs.Lays.n100 Tryz.prog Tryz.lays100_ren:={
 mixed:=by kernel_rfl
 f100:=Tryz.func224.trans (congrArg some (by kernel_rfl))
 f207:=Tryz.func267.trans (congrArg some (by kernel_rfl))
 t3:=Tryz.underlying3
 a3:=Tryz.isAgg3
 z3:=Tryz.sizeOf3
 v3:=Tryz.zeroValue3
 t4:=Tryz.underlying4
 a4:=Tryz.isAgg4
 z4:=Tryz.sizeOf4
 v4:=Tryz.zeroValue4
 t9:=Tryz.underlying9
 a9:=Tryz.isAgg9
 z9:=Tryz.sizeOf9
 v9:=Tryz.zeroValue9 }
open Go.RowKit Go.Lib in
theorem Tryz.strings_HasSuffix (s p:ByteArray)(w:World)(hs:s.size<=9223372036854775807) :
  Calls Tryz.prog 224 #[.string s,.string p] w fun e w'=>e=.returned (.bool (Lib.hasSuffix s.data.toList p.data.toList))/\w'=w:=Any.strings_HasSuffix Tryz.lays100 s p w hs
end Go.Proofs.YtohblmepajhpaaaGreatDoor
namespace Go.Proofs.YtohblmepajhpaaaGreatDoor
open Go.RowKit
theorem aLq {p d:ByteArray}{w:World}(hd:d.size<=140737488351232) :
  Calls Tryz.prog 214 #[.string p,.string d] w fun e w'=>e=.returned (.bool (within p.data.toList d.data.toList))/\w'=w:=by
 have C:=Tryz.strings_HasPrefix p (d++⟨#[47]⟩) w
 have HO:=hid (show Lib.hasPrefix p.data.toList (d++⟨#[47]⟩:ByteArray).data.toList=within p.data.toList d.data.toList by
  simp[Lib.hasPrefix,within])
 have hsz:((d.size:Int)+1)<=9223372036854775807:=by omega
 go_enter Tryz.func214,Tryz.ntmps214
 go_wp2_with fail
 refine C.mono ?_
 rintro e w1 ⟨rfl,rfl⟩
 go_wp2
 go_ret
 exact ⟨aAh HO.out,rfl⟩
theorem aXr {p d:ByteArray}{w:World}(hp:p.size<=140737488351232)(hd:d.size<=140737488351232) :
  Calls Tryz.prog 179 #[.string p,.string d] w fun e w'=>e=.returned (.bool (clashP p.data.toList d.data.toList))/\w'=w:=by
 by_cases h:p=d
 ·have e1:(p.toList == d.toList)=true:=by rw[h];exact beq_self_eq_true _
  have HO:=hid (show clashP p.data.toList d.data.toList=true by simp[clashP,h])
  clear h
  go_enter Tryz.func179,Tryz.ntmps179
  go_wp2
  go_ret
  exact ⟨aAh HO.out.symm,rfl⟩
 have e1:=aBw h
 have hn:decide (p.data.toList=d.data.toList)=false:=decide_eq_false fun e=>h (aCc e)
 have C1:=aLq (p:=p) (d:=d) (w:=w) hd
 have C2:=aLq (p:=d) (d:=p) (w:=w) hp
 have HO:=hid (show clashP p.data.toList d.data.toList=(within p.data.toList d.data.toList || within d.data.toList p.data.toList) by rw[clashP,hn,Bool.false_or])
 clear h hn
 cases h1:within p.data.toList d.data.toList with
 | true=>
  rw[h1] at C1
  have H1:=hid h1
  clear h1
  go_enter Tryz.func179,Tryz.ntmps179
  go_wp2_with fail
  refine C1.mono ?_
  rintro e w1 ⟨rfl,rfl⟩
  go_wp2
  go_ret
  exact ⟨aAh (by rw[HO.out,H1.out];rfl),rfl⟩
 | false=>
  rw[h1] at C1
  have H1:=hid h1
  clear h1
  go_enter Tryz.func179,Tryz.ntmps179
  go_wp2_with fail
  refine C1.mono ?_
  rintro e w1 ⟨rfl,rfl⟩
  go_wp2_with fail
  refine C2.mono ?_
  rintro e w1 ⟨rfl,rfl⟩
  go_wp2
  go_ret
  exact ⟨aAh (by rw[HO.out,H1.out];rfl),rfl⟩
def Passed (S:Bs->Bool)(p:ByteArray)(left:Lit->Bool):Prop:=∀q:ByteArray,q.size<=maxLen->S q.data.toList=true->left (klP q)=false->(!decide (q=p) && clashP q.data.toList p.data.toList)=false
def CloneIs (e:TypeId)(sz n:Nat)(xs:List Value)(w:World)(en:Ending) (w':World):Prop:=∃v,en=.returned v/\w'.ownsRow w.heap.size e sz v n xs/\Below w.heap.size w w'
theorem aNc {A:Option Addr}{n c:Nat}{l:List FV}{w:World}(hn:n<=1000000)(h:RdF w w.heap.size A n c l) :
  Calls Tryz.prog 112 #[.slice A n c] w (CloneIs 48 3 n (l.flatMap FV.cells) w):=by
 have q22:∀(w:World) (a:Option Addr) (n c n' c':Nat),(binOp .eql 29 (.slice a n c) (.slice none n' c')).run Tryz.prog w=.ok (.bool a.isNone) w:=fun w a n c n' c'=>Lib.run_eql_slice_nil w _ _ a n c n' c' Tryz.underlying29
 have hr:=h.row
 cases A with
 | none=>
  have hn0:n=0:=by
   rcases Nat.eq_zero_or_pos n with h0 | h0
   ·exact h0
   obtain ⟨b,o,e,_⟩:=hr.at_ h0;cases e
  subst hn0
  have hl:l.flatMap FV.cells=[]:=List.eq_nil_of_length_eq_zero (hr.len.trans (Nat.zero_mul 3))
  have HO:=hid hl
  go_enter Tryz.func112,Tryz.ntmps112
  go_wp2
  go_ret
  exact ⟨_,rfl,by rw[HO.out];exact World.ownsRow_nil _ _ _ _,Below.refl _ _⟩
 | some a=>
  have ho0:(w.alloc (.cells #[] 48)).ownsRow w.heap.size 48 3 (.slice (some ⟨w.heap.size,0,none⟩) 0 0) 0 []:=World.ownsRow_made w #[] 0 (Nat.le_refl _) (Nat.zero_le _) (by simp)
  have hb0:Below w.heap.size w (w.alloc (.cells #[] 48)):=(Below.refl _ _).alloc (Nat.le_refl _) _
  go_enter Tryz.func112,Tryz.ntmps112
  go_wp2_with (at_builtin;refine aAp rfl (.tmp 5) (.tmp 6) 29 rfl aCg rfl rfl ho0 (hr.below hb0) (aBh _) (by unfold maxLen;omega) (by omega) hb0.size ?_;intro v7 w7 ho7 hg7 hv7)
  rw[Nat.zero_add,List.nil_append] at ho7
  go_ret
  exact ⟨_,rfl,ho7,hb0.grown hg7 hb0.size (fun g hg=>(ho0.lt g hg).1)⟩
theorem aTc (w:World)(n c:Nat)(e:TypeId)(_h:c<n)(hn:n<=maxLen):n<=grownCap w n c e/\grownCap w n c e<=maxLen:=⟨grownCap_ge w _ _ _,grownCap_le_maxLen w n c e (by omega)⟩
theorem aCl {w w1:World}{g:Nat}{row:Option Nat}{cs:Array Value}(h:w.grownBy w1 row)(hg:w.heap.size<=g\/row=some g):w.grownBy (w1.setRow g cs) row:=
 ⟨h.os,h.tape,h.output,by have:=h.size;simpa[World.setRow] using this,fun k hk hne=>by
  rw[setRow_other _ _ _ _ (fun e=>by
   rcases hg with hg | hg
   ·omega
   exact hne (by rw[hg,e]))]
  exact h.block k hk hne⟩
theorem aYy {w:World}{g n c sz:Nat}{cur cs:Array Value}{e:TypeId}{xs:List Value}(hg:w.heap[g]? = some (.cells cur e (0,0)))(hn:n<=c)(hx:xs.length=n*sz)(hcs:∀(j:Nat)(u:Value),xs[j]? = some u->cs[j]? = some u) :
  Rd (w.setRow g cs) (w.setRow g cs).heap.size sz (some ⟨g,0,none⟩) n c xs:=by
 have hlt:g<w.heap.size:=(Array.getElem?_eq_some_iff.1 hg).1
 refine ⟨hx,hn,fun _=>⟨g,0,rfl,by simpa[World.setRow] using hlt,fun j u hu=>?_⟩⟩
 rw[Nat.zero_add,cell_of_row _ _ _ _ _ _ (setRow_heap _ _ _ _ _ _ hg)]
 exact hcs j u hu
theorem aBa {l r:List Value}{n:Nat}(h:l.take n=r){j:Nat}{u:Value}(hj:r[j]? = some u):l[j]? = some u:=by
 rw[<-h,List.getElem?_take] at hj
 split at hj
 ·exact hj
 cases hj
theorem aGq {P:Program}{w:World}{a:Act}{ops:Array Oper}{rest:List Oper}{o:Oper}{Q:Exit->Act->World->Prop}(hgd:o.guard=none)(t:TypeId)(x y:Operand)
  (ho:o.op=.store t x y) {g d:Nat} {e:TypeId} {cur cs:Array Value} (hi:(P.info? t).map (·.size)=some cs.size) (hx:a.eval x=.pointer (some ⟨g,d,none⟩)) (hy:a.eval y=.agg cs)
  (hg:w.heap[g]? = some (.cells cur e (0,0))) (hfit:d+cs.size<=cur.size) (h1:∀u∈cs.toList,u.oneCell'=true)
  (hK:wpList P ops Q rest (a.put o.dst undef) (w.setRow g (cur.toList.take d++cs.toList++cur.toList.drop (d+cs.size)).toArray)):wpList P ops Q (o::rest) a w:=by
 refine wpList_plain hgd fun K hK'=>?_
 have hr:=run_storeCells_at P g d e cs.toList 0 cur w hg (by simpa using hfit) h1
 obtain ⟨i,hi1,hi2⟩:=Option.map_eq_some_iff.1 hi
 unfold Oper.wp execOp
 have hst:(storeVar t ⟨g,d,none⟩ (.agg cs)).run P w=.ok () (w.setRow g (cur.toList.take d++cs.toList++cur.toList.drop (d+cs.size)).toArray):=by
  simp only[Nat.add_zero,Array.length_toList] at hr
  simp[storeVar,sizeOf,typeInfo,hi1,hi2,Value.cells,hr]
 simp only[ho,hx,hy,Instr.storeAt,Instr.sureAddr,Sem.run_bind,Sem.run_pure,Result.andThen_ok,hst]
 exact hK' _ _ hK
def OwnIs (e:TypeId)(sz n:Nat)(xs x:List Value)(w:World)(en:Ending) (w':World):Prop:=
 ∃g,en=.returned (.slice (some ⟨g,0,none⟩) n (n+3))/\w'.ownsRow w.heap.size e sz (.slice (some ⟨g,0,none⟩) (n+3) (n+3)) (n+3) (xs++(x++(x++x)))/\Below w.heap.size w w'
end Go.Proofs.YtohblmepajhpaaaGreatDoor
namespace Go.Proofs.YtohblmepajhpaaaGreatDoor
theorem aId:treeOk []=true:=aAx.2 ⟨by simp,fun _ h=>by simp at h,fun i a b h=>by simp at h,fun _ h=>by simp at h⟩
theorem aLh (p:Bs):within p p=false:=by
 cases h:within p p with
 | false=>rfl
 | true=>exact absurd (aQr h) (Nat.lt_irrefl _)
theorem aEh (l:List FV)(f:FV):(sortedIn l f).length=l.length+1:=by
 have:=congrArg List.length (List.takeWhile_append_dropWhile (p:=lessF f) (l:=l))
 rw[List.length_append] at this
 rw[sortedIn,List.length_append,List.length_cons]
 omega
theorem bBg (l:List FV)(f:FV):(putF l f).1.length<=l.length+1:=by
 unfold putF
 have:=aEh l f
 have:=aEh (without l f.path) f
 have:=aKg l f.path
 repeat' split
 all_goals simp only[List.length_nil]<;>omega
def file71:FV:=⟨⟨#[55,49]⟩,false,⟨#[]⟩⟩
theorem bBx (x y:FV)(w:World):(binOp .neq 48 (.agg #[.string x.path,.bool x.exec,.string x.text]) (.agg #[.string y.path,.bool y.exec,.string y.text])).run Tryz.prog w=.ok (.bool (!decide (x=y))) w:=by
 rw[run_neq_struct,aXs];rfl
theorem aIr {l:List FV}{f g:FV}:g∈sortedIn l f↔g=f\/g∈l:=by
 rw[sortedIn,List.mem_append,List.mem_cons]
 conv=>rhs;rw[<-List.takeWhile_append_dropWhile (p:=lessF f) (l:=l),List.mem_append]
 constructor
 ·rintro (h | h | h)
  ·exact .inr (.inl h)
  ·exact .inl h
  exact .inr (.inr h)
 rintro (h | h | h)
 ·exact .inr (.inl h)
 ·exact .inl h
 exact .inr (.inr h)
theorem bBt {l:List FV}{p:ByteArray}(h:hasP l p=false){g:FV}(hg:g∈l):g.path≠p:=fun e=>by
 have:=aGj.2 ⟨g,hg,e⟩
 rw[h] at this;cases this
theorem aZb {l:List FV}(hr:Rise l){f:FV}(hn:hasP l f.path=false):∃a b:List FV,l=a++b/\sortedIn l f=a++f::b/\(∀x∈a,x.p<f.p)/\∀x∈b,f.p<x.p:=by
 refine ⟨l.takeWhile (lessF f),l.dropWhile (lessF f),(List.takeWhile_append_dropWhile).symm,rfl,fun x hx=>?_,fun x hx=>?_⟩
 ·have:∀{l:List FV} {x:FV},x∈l.takeWhile (lessF f)->lessF f x=true:=by
   intro l
   induction l with
   | nil=>intro x h;cases h
   | cons y l ih=>
    intro x h
    rw[List.takeWhile_cons] at h
    split at h
    ·rename_i hy
     rcases List.mem_cons.1 h with rfl | h
     ·exact hy
     exact ih h
    cases h
  exact of_decide_eq_true (this hx)
 have:∀{l:List FV},(l.Pairwise fun a b=>a.p<b.p)->(∀y∈l,y.path≠f.path)->∀x∈l.dropWhile (lessF f),f.p<x.p:=by
  intro l
  induction l with
  | nil=>intro _ _ x h;cases h
  | cons y l ih=>
   intro hp hne x h
   have hp2:=List.pairwise_cons.1 hp
   rw[List.dropWhile_cons] at h
   split at h
   ·exact ih hp2.2 (fun z hz=>hne z (List.mem_cons_of_mem _ hz)) x h
   rename_i hy
   have hyf:f.p<y.p:=by
    rcases bDl y.p f.p with e | e | e
    ·exact absurd (decide_eq_true e) hy
    ·exact absurd (FV.p_inj.1 e) (hne y (by simp))
    exact e
   rcases List.mem_cons.1 h with rfl | h
   ·exact hyf
   exact aEe hyf (hp2.1 x h)
 exact this hr.pair (fun y hy=>bBt hn hy) x hx
theorem aGy {l:List FV}(hr:Rise l){f:FV}(hn:hasP l f.path=false):Rise (sortedIn l f):=by
 obtain ⟨a,b,e,e2,ha,hb⟩:=aZb hr hn
 have hp:=hr.pair
 rw[e,List.pairwise_append] at hp
 rw[e2]
 refine aEi (List.pairwise_append.2 ⟨hp.1,List.pairwise_cons.2 ⟨hb,hp.2.1⟩,fun x hx y hy=>?_⟩)
 rcases List.mem_cons.1 hy with rfl | hy
 ·exact ha x hx
 exact aEe (ha x hx) (hb y hy)
theorem aPg:∀{a b:List FV},(a.Pairwise fun x y=>x.p<y.p)->(b.Pairwise fun x y=>x.p<y.p)->(∀x,x∈a↔x∈b)->a=b
 | [],[],_,_,_=>rfl
 | [],y::b,_,_,h=>absurd ((h y).2 (by simp)) (by simp)
 | x::a,[],_,_,h=>absurd ((h x).1 (by simp)) (by simp)
 | x::a,y::b,ha,hb,h=>by
  have ha2:=List.pairwise_cons.1 ha
  have hb2:=List.pairwise_cons.1 hb
  have hxy:x=y:=by
   rcases List.mem_cons.1 ((h x).1 (by simp)) with e | h1
   ·exact e
   rcases List.mem_cons.1 ((h y).2 (by simp)) with e | h2
   ·exact e.symm
   exact absurd (aEe (ha2.1 y h2) (hb2.1 x h1)) (aFw _)
  subst hxy
  refine congrArg _ (aPg ha2.2 hb2.2 fun z=>?_)
  constructor
  ·intro hz
   rcases List.mem_cons.1 ((h z).1 (by simp[hz])) with e | h1
   ·subst e;exact absurd (ha2.1 _ hz) (aFw _)
   exact h1
  intro hz
  rcases List.mem_cons.1 ((h z).2 (by simp[hz])) with e | h1
  ·subst e;exact absurd (hb2.1 _ hz) (aFw _)
  exact h1
structure PutOk (l:List FV) (f:FV):Prop where
 tree:treeOk l=true
 path:pathOk f.p=true
 text:f.text.size<=20000
 clash:clashF l f.path=false
 room:hasP l f.path=true\/l.length<100
noncomputable def playStep (out:List FV) (f:FV):List FV:=if 2000<f.text.size then out else if (putF out f).2=0 then (putF out f).1 else out
noncomputable def playF (l:List FV):List FV:=(l.take 30).foldl playStep []
def kindF (b o t:List ByteArray):Int:=if o=b then 3 else if t=b then 2 else if o=t then 4 else 5
def betweenF (b o t:List ByteArray):List KV:=if b.length+o.length+t.length=0 then [] else [⟨kindF b o t,b,o,t⟩]
def runF:List (Option Nat×Option Nat)->Nat->Nat->Nat
 | (some x,some y)::zs,p,q=>if x=p/\y=q then runF zs (p+1) (q+1)+1 else 0
 | _,_,_=>0
def goF (base ours theirs:List ByteArray)(zs:List (Option Nat×Option Nat)):Nat->Nat->Nat->Nat->Nat->List KV
 | 0,_,b,o,t=>betweenF (base.drop b) (ours.drop o) (theirs.drop t)
 | fuel+1,i,b,o,t=>
  match zs[i]? with
  | none=>betweenF (base.drop b) (ours.drop o) (theirs.drop t)
  | some (some x,some y)=>
   let n:=runF (zs.drop (i+1)) (x+1) (y+1)+1
   betweenF (sliceF base b i) (sliceF ours o x) (sliceF theirs t y)++⟨1,sliceF base i (i+n),sliceF base i (i+n),sliceF base i (i+n)⟩::goF base ours theirs zs fuel (i+n) (i+n) (x+n) (y+n)
  | some _=>goF base ours theirs zs fuel (i+1) b o t
def chunksF (base ours theirs:List ByteArray):List KV:=goF base ours theirs ((placeF base ours).zip (placeF base theirs)) base.length 0 0 0 0
def cleanF (l:List KV):Bool:=l.all fun c=>decide (c.kind≠5)
def mergedF (l:List KV):List ByteArray:=l.flatMap fun c=>if c.kind=3 then c.theirs else c.ours
def endedF (s:Bs):Bs:=if s=[]\/s.getLast? = some 10 then s else s++[10]
def markO:Bs:=[60,60,60,60,60,60,60,32,111,117,114,115,10]
def markB:Bs:=[124,124,124,124,124,124,124,32,98,97,115,101,10]
def markT:Bs:=[61,61,61,61,61,61,61,10]
def markE:Bs:=[62,62,62,62,62,62,62,32,116,104,101,105,114,115,10]
def catF (l:List ByteArray):Bs:=l.flatMap fun x=>x.data.toList
def clashTextF (out:Bs)(c:KV):Bs:=if c.kind≠5 then out++catF (mergedF [c]) else
 endedF (endedF (endedF (endedF out++markO++catF c.ours)++markB++catF c.base)++markT++catF c.theirs)++markE
def merge3F (b o t:ByteArray):ByteArray×Bool:=
 let l:=chunksF (linesF b) (linesF o) (linesF t)
 if cleanF l=true then (joinF (mergedF l),true) else (ofB (l.foldl clashTextF []),false)
def ratioF (a b:ByteArray):Int:=
 let x:=linesF a;let y:=linesF b
 if 400<x.length\/400<y.length then 0 else if x.length+y.length=0 then 100 else ((200*lcs x y / (x.length+y.length):Nat):Int)
def loneF (l other:List FV):List Nat:=(List.range l.length).filter fun i=>match l[i]? with
 | some f=>(findP other f.path).isNone && !decide (f.text=⟨#[]⟩)
 | none=>false
def textAt (l:List FV)(i:Nat):ByteArray:=((l[i]?).map FV.text).getD ⟨#[]⟩
def sameF (base side:List FV):List Nat->List Nat->List (Nat×Nat)×List Nat×List Nat
 | [],js=>([],[],js)
 | i::is,js=>
  match js.find? fun j=>decide (textAt side j=textAt base i) with
  | some j=>let r:=sameF base side is (js.filter fun k=>decide (k≠j));((i,j)::r.1,r.2.1,r.2.2)
  | none=>let r:=sameF base side is js;(r.1,i::r.2.1,r.2.2)
def bestF (base side:List FV)(is js:List Nat):Option (Nat×Nat):=
 ((is.flatMap fun i=>js.map fun j=>(i,j)).foldl (fun (b:Option (Nat×Nat)×Int) p=>let r:=ratioF (textAt base p.1) (textAt side p.2);if b.2<r then (some p,r) else b) (none,49)).1
def alikeF (base side:List FV):Nat->List Nat->List Nat->List (Nat×Nat)
 | 0,_,_=>[]
 | n+1,is,js=>
  match bestF base side is js with
  | none=>[]
  | some p=>p::alikeF base side n (is.filter fun k=>decide (k≠p.1)) (js.filter fun k=>decide (k≠p.2))
def pairsF (base side:List FV):List (Nat×Nat):=
 let s:=sameF base side (loneF base side) (loneF side base)
 s.1++alikeF base side s.2.1.length s.2.1 s.2.2
def movedF (base side:List FV)(p:ByteArray):Option ByteArray:=
 ((pairsF base side).find? fun q=>decide (((base[q.1]?).map FV.path)=some p)).bind fun q=>(side[q.2]?).map FV.path
structure CL where
 path:ByteArray
 kind:Int
 text:ByteArray
deriving DecidableEq
def whereF (base side:List FV)(f:FV):Option FV:=
 match findP side f.path with
 | some x=>some x
 | none=>(movedF base side f.path).bind fun d=>findP side d
def addedF (base side:List FV):List FV:=side.filter fun f=>(findP base f.path).isNone && !((pairsF base side).any fun q=>decide (((side[q.2]?).map FV.path)=some f.path))
def putM (m:List FV×List CL)(f:FV)(kind:Int):List FV×List CL:=
 if (m.1.any fun x=>clashP x.p f.p)=true then (m.1,m.2++[⟨f.path,5,f.text⟩])
 else (m.1++[f],if kind=0 then m.2 else m.2++[⟨f.path,kind,f.text⟩])
def bothM (m:List FV×List CL)(f o t:FV):List FV×List CL:=
 let path:=if o.path=f.path then t.path else o.path
 let kind:Int:=if o.path=f.path then 0 else if t.path≠f.path/\t.path≠o.path then 4 else 0
 let exec:=if o.exec=f.exec then t.exec else o.exec
 let r:=merge3F f.text o.text t.text
 putM m ⟨path,exec,r.1⟩ (if r.2=false/\kind=0 then 1 else kind)
def keptM (base a b:List FV)(m:List FV×List CL)(f:FV):List FV×List CL:=
 match whereF base a f,whereF base b f with
 | some x,some y=>bothM m f x y
 | some x,none=>if x=f then m else putM m x 3
 | none,some y=>if y=f then m else putM m y 3
 | none,none=>m
def addOne (theirs:List FV)(m:List FV×List CL)(x:FV):List FV×List CL:=
 match findP theirs x.path with
 | none=>putM m x 0
 | some y=>if x=y then putM m x 0 else putM m ⟨x.path,x.exec,(merge3F ⟨#[]⟩ x.text y.text).1⟩ 2
def addM (ours theirs:List FV)(m:List FV×List CL):List FV×List CL:=
 (theirs.filter fun y=>(findP ours y.path).isNone).foldl (fun m y=>putM m y 0) (ours.foldl (addOne theirs) m)
def wholeF (base a b:List FV):List FV×List CL:=addM (addedF base a) (addedF base b) (base.foldl (keptM base a b) ([],[]))
def sortC (l:List CL):List CL:=l.foldl (fun out c=>out.takeWhile (fun x=>decide (x.path.data.toList<=c.path.data.toList))++c::out.dropWhile (fun x=>decide (x.path.data.toList<=c.path.data.toList))) []
def sortF (l:List FV):List FV:=l.foldl (fun out f=>sortedIn out f) []
noncomputable def treemergeF (base a b:List FV):List FV×List CL×Int:=
 if treeOk base=false\/treeOk a=false\/treeOk b=false then ([],[],5) else
 if treeOk (sortF (wholeF base a b).1)=false then ([],[],6) else (sortF (wholeF base a b).1,sortC (wholeF base a b).2,0)
theorem aRg (e:DV)(es:List DV):olds (e::es)=(if e.kind=3 then [] else [e.line])++olds es:=rfl
theorem bAn (e:DV)(es:List DV):news (e::es)=(if e.kind=2 then [] else [e.line])++news es:=rfl
theorem aJx:∀(es:List DV) (j:Nat),kinds es->(placesF es j).length=(olds es).length
 | [],_,_=>rfl
 | e::es,j,h=>by
  have he:=h e (by simp)
  have ih:=fun j=>aJx es j (fun x hx=>h x (List.mem_cons_of_mem _ hx))
  rw[placesF,aRg,List.length_append]
  rcases he with h1 | h1 | h1
  ·rw[if_pos h1,if_neg (by omega),List.length_cons,ih];simp;omega
  ·rw[if_neg (by omega),if_pos h1,if_neg (by omega),List.length_cons,ih];simp;omega
  rw[if_neg (by omega),if_neg (by omega),if_pos h1,ih];simp
theorem aFm:∀(es:List DV) (j:Nat),kinds es->∀(i x:Nat),(placesF es j)[i]? = some (some x)->j<=x/\x-j<(news es).length/\(news es)[x-j]? = (olds es)[i]?
 | [],_,_,i,x,h=>by simp[placesF] at h
 | e::es,j,hk,i,x,h=>by
  have he:=hk e (by simp)
  have ih:=fun j i x=>aFm es j (fun x hx=>hk x (List.mem_cons_of_mem _ hx)) i x
  rw[placesF] at h
  rw[bAn,aRg]
  rcases he with h1 | h1 | h1
  ·rw[if_pos h1] at h
   rw[if_neg (show ¬e.kind=2 by omega),if_neg (show ¬e.kind=3 by omega)]
   cases i with
   | zero=>
    simp at h
    subst h
    simp
   | succ i=>
    rw[List.getElem?_cons_succ] at h
    obtain ⟨a,b,c⟩:=ih (j+1) i x h
    obtain ⟨d,hd⟩:∃d,x-j=d+1:=⟨x-j-1,by omega⟩
    rw[hd]
    have hd2:x-(j+1)=d:=by omega
    rw[hd2] at b c
    refine ⟨by omega,by simp;omega,?_⟩
    simpa using c
  ·rw[if_neg (show ¬e.kind=1 by omega),if_pos h1] at h
   rw[if_pos h1,if_neg (show ¬e.kind=3 by omega)]
   cases i with
   | zero=>simp at h
   | succ i=>
    rw[List.getElem?_cons_succ] at h
    obtain ⟨a,b,c⟩:=ih j i x h
    exact ⟨a,by simpa using b,by simpa using c⟩
  rw[if_neg (show ¬e.kind=1 by omega),if_neg (show ¬e.kind=2 by omega)] at h
  rw[if_neg (show ¬e.kind=2 by omega),if_pos h1]
  obtain ⟨a,b,c⟩:=ih (j+1) i x h
  obtain ⟨d,hd⟩:∃d,x-j=d+1:=⟨x-j-1,by omega⟩
  rw[hd]
  have hd2:x-(j+1)=d:=by omega
  rw[hd2] at b c
  exact ⟨by omega,by simp;omega,by simpa using c⟩
theorem aFl:∀(es:List DV) (j:Nat),kinds es->∀(i i' x x':Nat),i<i'->(placesF es j)[i]? = some (some x)->(placesF es j)[i']? = some (some x')->x<x'
 | [],_,_,i,_,x,_,_,h,_=>by simp[placesF] at h
 | e::es,j,hk,i,i',x,x',hi,h,h'=>by
  have he:=hk e (by simp)
  have hk':kinds es:=fun x hx=>hk x (List.mem_cons_of_mem _ hx)
  rw[placesF] at h h'
  rcases he with h1 | h1 | h1
  ·rw[if_pos h1] at h h'
   obtain ⟨k',rfl⟩:∃k',i'=k'+1:=⟨i'-1,by omega⟩
   rw[List.getElem?_cons_succ] at h'
   cases i with
   | zero=>
    simp at h
    have:=(aFm es (j+1) hk' k' x' h').1
    omega
   | succ i=>
    rw[List.getElem?_cons_succ] at h
    exact aFl es (j+1) hk' i k' x x' (by omega) h h'
  ·rw[if_neg (show ¬e.kind=1 by omega),if_pos h1] at h h'
   obtain ⟨k',rfl⟩:∃k',i'=k'+1:=⟨i'-1,by omega⟩
   rw[List.getElem?_cons_succ] at h'
   cases i with
   | zero=>simp at h
   | succ i=>
    rw[List.getElem?_cons_succ] at h
    exact aFl es j hk' i k' x x' (by omega) h h'
  rw[if_neg (show ¬e.kind=1 by omega),if_neg (show ¬e.kind=2 by omega)] at h h'
  exact aFl es (j+1) hk' i i' x x' hi h h'
structure Places (base side:List ByteArray) (ps:List (Option Nat)):Prop where
 len:ps.length=base.length
 at_:∀(i x:Nat),ps[i]? = some (some x)->x<side.length/\side[x]? = base[i]?
 up:∀(i i' x x':Nat),i<i'->ps[i]? = some (some x)->ps[i']? = some (some x')->x<x'
theorem aDa (base side:List ByteArray):Places base side (placeF base side):=by
 obtain ⟨h1,h2,h3⟩:=aLd base side
 refine ⟨?_,fun i x h=>?_,aFl _ _ h3⟩
 ·rw[placeF,aJx _ _ h3,h1]
 obtain ⟨_,a,b⟩:=aFm _ _ h3 i x h
 rw[h1,h2] at b
 rw[h2] at a
 exact ⟨a,b⟩
theorem bAq:∀(zs:List (Option Nat×Option Nat)) (p q k:Nat),k<runF zs p q->zs[k]? = some (some (p+k),some (q+k))
 | [],_,_,k,h=>by simp[runF] at h
 | (none,_)::zs,p,q,k,h=>by simp[runF] at h
 | (some x,none)::zs,p,q,k,h=>by simp[runF] at h
 | (some x,some y)::zs,p,q,k,h=>by
  rw[runF] at h
  split at h
  ·rename_i e
   obtain ⟨rfl,rfl⟩:=e
   cases k with
   | zero=>rfl
   | succ k=>
    rw[List.getElem?_cons_succ,bAq zs (x+1) (y+1) k (by omega)]
    rw[show x+1+k=x+(k+1) by omega,show y+1+k=y+(k+1) by omega]
  omega
structure Both (base ours theirs:List ByteArray) (zs:List (Option Nat×Option Nat)):Prop where
 len:zs.length=base.length
 at_:∀(i x y:Nat),zs[i]? = some (some x,some y)->x<ours.length/\ours[x]? = base[i]?/\y<theirs.length/\theirs[y]? = base[i]?
 up:∀(i i' x x' y y':Nat),i<i'->zs[i]? = some (some x,some y)->zs[i']? = some (some x',some y')->x<x'/\y<y'
theorem aQn {α β:Type}{xs:List α}{ys:List β}{i:Nat}{x:α}{y:β}(h:(xs.zip ys)[i]? = some (x,y)):xs[i]? = some x/\ys[i]? = some y:=by
 rw[List.getElem?_zip_eq_some] at h;exact h
theorem aNs (base ours theirs:List ByteArray):Both base ours theirs ((placeF base ours).zip (placeF base theirs)):=by
 have p:=aDa base ours
 have q:=aDa base theirs
 refine ⟨by rw[List.length_zip,p.len,q.len,Nat.min_self],fun i x y h=>?_,fun i i' x x' y y' hi h h'=>?_⟩
 ·obtain ⟨h1,h2⟩:=aQn h
  obtain ⟨a,b⟩:=p.at_ i x h1
  obtain ⟨c,d⟩:=q.at_ i y h2
  exact ⟨a,b,c,d⟩
 obtain ⟨h1,h2⟩:=aQn h
 obtain ⟨h3,h4⟩:=aQn h'
 exact ⟨p.up i i' x x' hi h1 h3,q.up i i' y y' hi h2 h4⟩
theorem aCf {l:List ByteArray}{i k:Nat}(h:i<=k)(hk:k<=l.length):l.drop i=sliceF l i k++l.drop k:=by
 have h1:(l.take k++l.drop k).drop i=(l.take k).drop i++l.drop k:=by
  rw[List.drop_append_of_le_length (by rw[List.length_take];omega)]
 rw[List.take_append_drop] at h1
 exact h1
theorem aOv {l m:List ByteArray}{i x n:Nat}(h:∀k,k<n->m[x+k]? = l[i+k]?)(hl:i+n<=l.length)(hm:x+n<=m.length):sliceF m x (x+n)=sliceF l i (i+n):=by
 unfold sliceF
 refine List.ext_getElem? fun k=>?_
 rw[List.getElem?_drop,List.getElem?_drop]
 by_cases hk:k<n
 ·rw[List.getElem?_take_of_lt (by omega),List.getElem?_take_of_lt (by omega)];exact h k hk
 rw[List.getElem?_eq_none (by rw[List.length_take];omega),List.getElem?_eq_none (by rw[List.length_take];omega)]
inductive Pieces (base ours theirs:List ByteArray) (zs:List (Option Nat×Option Nat)):Nat->Nat->Nat->List KV->Prop
 | last {b o t:Nat} (hb:b<=base.length) (ho:o<=ours.length) (ht:t<=theirs.length):Pieces base ours theirs zs b o t (betweenF (base.drop b) (ours.drop o) (theirs.drop t))
 | more {b o t i x y n:Nat} {l:List KV} (hz:∀k,k<n->zs[i+k]? = some (some (x+k),some (y+k))) (hn:0<n) (hb:b<=i) (ho:o<=x) (ht:t<=y) (hi:i+n<=base.length) (hx:x+n<=ours.length) (hy:y+n<=theirs.length)
   (he:sliceF ours x (x+n)=sliceF base i (i+n)) (hf:sliceF theirs y (y+n)=sliceF base i (i+n)) (h:Pieces base ours theirs zs (i+n) (x+n) (y+n) l) :
   Pieces base ours theirs zs b o t (betweenF (sliceF base b i) (sliceF ours o x) (sliceF theirs t y)++⟨1,sliceF base i (i+n),sliceF base i (i+n),sliceF base i (i+n)⟩::l)
theorem aHk {base ours theirs:List ByteArray}{zs:List (Option Nat×Option Nat)}(Z:Both base ours theirs zs) :
  ∀(fuel i b o t:Nat),base.length<=i+fuel->b<=i->b<=base.length->o<=ours.length->t<=theirs.length->(∀i' x y,i<=i'->zs[i']? = some (some x,some y)->o<=x/\t<=y)->Pieces base ours theirs zs b o t (goF base ours theirs zs fuel i b o t)
 | 0,i,b,o,t,_,_,hb,ho,ht,_=>by rw[goF];exact .last hb ho ht
 | fuel+1,i,b,o,t,hf,hbi,hb,ho,ht,hge=>by
  rw[goF]
  split
  ·exact .last hb ho ht
  ·rename_i x y hz
   have hrun:=bAq (zs.drop (i+1)) (x+1) (y+1)
   generalize runF (zs.drop (i+1)) (x+1) (y+1)=m at hrun
   have hz':∀k,k<m+1->zs[i+k]? = some (some (x+k),some (y+k)):=fun k hk=>by
    cases k with
    | zero=>exact hz
    | succ k=>
     have:=hrun k (by omega)
     rw[List.getElem?_drop] at this
     rw[show i+(k+1)=i+1+k by omega,this,show x+1+k=x+(k+1) by omega,show y+1+k=y+(k+1) by omega]
   have hl:=Z.at_ _ _ _ (hz' m (by omega))
   have hil:i+m<zs.length:=(List.getElem?_eq_some_iff.1 (hz' m (by omega))).1
   rw[Z.len] at hil
   obtain ⟨g1,g2⟩:=hge i x y (Nat.le_refl _) hz
   refine .more hz' (by omega) hbi g1 g2 (by omega) (by omega) (by omega) ?_ ?_ (aHk Z fuel (i+(m+1)) (i+(m+1)) (x+(m+1)) (y+(m+1)) (by omega) (Nat.le_refl _) (by omega) (by omega) (by omega) ?_)
   ·exact aOv (fun k hk=>(Z.at_ _ _ _ (hz' k hk)).2.1) (by omega) (by omega)
   ·exact aOv (fun k hk=>(Z.at_ _ _ _ (hz' k hk)).2.2.2) (by omega) (by omega)
   intro i' x' y' hi' h'
   obtain ⟨u1,u2⟩:=Z.up (i+m) i' _ x' _ y' (by omega) (hz' m (by omega)) h'
   omega
  rename_i hz
  exact aHk Z fuel (i+1) b o t (by omega) (by omega) hb ho ht (fun i' x y hi' h=>hge i' x y (by omega) h)
theorem aHj (base ours theirs:List ByteArray):Pieces base ours theirs ((placeF base ours).zip (placeF base theirs)) 0 0 0 (chunksF base ours theirs):=
 aHk (aNs base ours theirs) _ _ _ _ _ (by omega) (Nat.le_refl _) (by omega) (by omega) (by omega) (fun _ _ _ _ _=>⟨by omega,by omega⟩)
theorem aGs (b o t:List ByteArray):(betweenF b o t).flatMap KV.base=b/\(betweenF b o t).flatMap KV.ours=o/\(betweenF b o t).flatMap KV.theirs=t:=by
 unfold betweenF
 split
 ·have hb:b=[]:=List.eq_nil_of_length_eq_zero (by omega)
  have ho:o=[]:=List.eq_nil_of_length_eq_zero (by omega)
  have ht:t=[]:=List.eq_nil_of_length_eq_zero (by omega)
  subst hb;subst ho;subst ht
  exact ⟨rfl,rfl,rfl⟩
 exact ⟨by simp,by simp,by simp⟩
theorem Pieces.sides {base ours theirs:List ByteArray}{zs:List (Option Nat×Option Nat)}{b o t:Nat}{l:List KV}(h:Pieces base ours theirs zs b o t l) :
  l.flatMap KV.base=base.drop b/\l.flatMap KV.ours=ours.drop o/\l.flatMap KV.theirs=theirs.drop t:=by
 induction h with
 | last hb ho ht=>exact aGs _ _ _
 | more hz hn hb ho ht hi hx hy he hf h ih=>
  obtain ⟨i1,i2,i3⟩:=ih
  obtain ⟨j1,j2,j3⟩:=aGs (sliceF base _ _) (sliceF ours _ _) (sliceF theirs _ _)
  refine ⟨?_,?_,?_⟩
  ·rw[List.flatMap_append,List.flatMap_cons,i1,j1]
   rw[aCf hb (by omega),aCf (Nat.le_add_right _ _) hi]
  ·rw[List.flatMap_append,List.flatMap_cons,i2,j2]
   rw[aCf ho (by omega),aCf (Nat.le_add_right _ _) hx,he]
  rw[List.flatMap_append,List.flatMap_cons,i3,j3]
  rw[aCf ht (by omega),aCf (Nat.le_add_right _ _) hy,hf]
def KindOk (c:KV):Prop:=(c.kind=1/\c.ours=c.base/\c.theirs=c.base)\/c.kind=kindF c.base c.ours c.theirs
theorem bCb {n i x:Nat}(h:((List.range' 0 n).map some)[i]? = some (some x)):x=i:=by
 rw[List.getElem?_map] at h
 cases h1:(List.range' 0 n)[i]? with
 | none=>rw[h1] at h;cases h
 | some y=>
  rw[h1] at h
  have h2:=List.getElem?_eq_some_iff.1 h1
  obtain ⟨hi,h3⟩:=h2
  rw[List.getElem_range'] at h3
  simp at h
  omega
theorem aIw (b o t:List ByteArray):(chunksF b o t).flatMap KV.base=b/\(chunksF b o t).flatMap KV.ours=o/\(chunksF b o t).flatMap KV.theirs=t:=by
 have:=(aHj b o t).sides
 simpa using this
def swapK (c:KV):KV:=⟨if c.kind=2 then 3 else if c.kind=3 then (if c.theirs=c.base then 3 else 2) else c.kind,c.base,c.theirs,c.ours⟩
theorem bDb {l other:List FV}{i:Nat}:i∈loneF l other↔∃f,l[i]? = some f/\findP other f.path=none/\f.text≠⟨#[]⟩:=by
 rw[loneF,List.mem_filter,List.mem_range]
 constructor
 ·rintro ⟨h,h2⟩
  rw[List.getElem?_eq_getElem h] at h2
  simp only[Bool.and_eq_true,Bool.not_eq_true',decide_eq_false_iff_not,Option.isNone_iff_eq_none] at h2
  exact ⟨_,List.getElem?_eq_getElem h,h2.1,h2.2⟩
 rintro ⟨f,h1,h2,h3⟩
 refine ⟨(List.getElem?_eq_some_iff.1 h1).1,?_⟩
 rw[h1]
 simp[h2,h3]
structure PairsOk (is js:List Nat) (ps:List (Nat×Nat)):Prop where
 from_:∀p∈ps,p.1∈is
 into:∀p∈ps,p.2∈js
 one:ps.Pairwise fun p q=>p.1≠q.1/\p.2≠q.2
theorem aJh (base side:List FV):∀(is js:List Nat),is.Nodup->PairsOk is js (sameF base side is js).1/\(∀i∈(sameF base side is js).2.1,i∈is)/\(∀j∈(sameF base side is js).2.2,j∈js)/\
  (∀p∈(sameF base side is js).1,p.1∉(sameF base side is js).2.1/\p.2∉(sameF base side is js).2.2)/\(sameF base side is js).2.1.Nodup
 | [],js,_=>by
  rw[sameF]
  exact ⟨⟨by simp,by simp,List.Pairwise.nil⟩,by simp,fun _ h=>h,by simp,List.nodup_nil⟩
 | i::is,js,hn=>by
  obtain ⟨hn1,hn2⟩:=List.nodup_cons.1 hn
  rw[sameF]
  cases hf:js.find? fun j=>decide (textAt side j=textAt base i) with
  | none=>
   obtain ⟨⟨a1,a2,a3⟩,b,c,d,e⟩:=aJh base side is js hn2
   dsimp only
   refine ⟨⟨fun p hp=>List.mem_cons_of_mem _ (a1 p hp),a2,a3⟩,fun k hk=>?_,c,fun p hp=>⟨fun h=>?_,(d p hp).2⟩,List.nodup_cons.2 ⟨fun h=>hn1 (b i h),e⟩⟩
   ·rcases List.mem_cons.1 hk with rfl | hk
    ·simp
    exact List.mem_cons_of_mem _ (b k hk)
   rcases List.mem_cons.1 h with h | h
   ·exact hn1 (by rw[<-h];exact a1 p hp)
   exact (d p hp).1 h
  | some j=>
   have hj:=List.mem_of_find?_eq_some hf
   obtain ⟨⟨a1,a2,a3⟩,b,c,d,e⟩:=aJh base side is (js.filter fun k=>decide (k≠j)) hn2
   have hne:∀k∈js.filter (fun k=>decide (k≠j)),k≠j:=fun k hk=>by simpa using (List.mem_filter.1 hk).2
   dsimp only
   refine ⟨⟨fun p hp=>?_,fun p hp=>?_,List.pairwise_cons.2 ⟨fun p hp=>⟨fun h=>hn1 (by rw[show i=p.1 from h];exact a1 p hp),fun h=>hne _ (a2 p hp) h.symm⟩,a3⟩⟩,fun k hk=>List.mem_cons_of_mem _ (b k hk),fun k hk=>(List.mem_filter.1 (c k hk)).1,fun p hp=>?_,e⟩
   ·rcases List.mem_cons.1 hp with rfl | hp
    ·simp
    exact List.mem_cons_of_mem _ (a1 p hp)
   ·rcases List.mem_cons.1 hp with rfl | hp
    ·exact hj
    exact (List.mem_filter.1 (a2 p hp)).1
   rcases List.mem_cons.1 hp with rfl | hp
   ·exact ⟨fun h=>hn1 (b _ h),fun h=>hne _ (c _ h) rfl⟩
   exact d p hp
theorem aNn {base side:List FV}{is js:List Nat}{p:Nat×Nat}(h:bestF base side is js=some p):p.1∈is/\p.2∈js:=by
 have key:∀(l:List (Nat×Nat)) (b:Option (Nat×Nat)×Int),(∀q,b.1=some q->q.1∈is/\q.2∈js)->(∀q∈l,q.1∈is/\q.2∈js)->
   ∀q,(l.foldl (fun (b:Option (Nat×Nat)×Int) p=>let r:=ratioF (textAt base p.1) (textAt side p.2);if b.2<r then (some p,r) else b) b).1=some q->q.1∈is/\q.2∈js:=by
  intro l
  induction l with
  | nil=>intro b hb _ q hq;exact hb q hq
  | cons x l ih=>
   intro b hb hl q hq
   rw[List.foldl_cons] at hq
   refine ih _ ?_ (fun q hq=>hl q (List.mem_cons_of_mem _ hq)) q hq
   intro q hq
   dsimp only at hq
   split at hq
   ·injection hq with hq;subst hq;exact hl x (by simp)
   exact hb q hq
 refine key _ (none,49) (fun q hq=>by cases hq) (fun q hq=>?_) p h
 obtain ⟨i,hi,h1⟩:=List.mem_flatMap.1 hq
 obtain ⟨j,hj,rfl⟩:=List.mem_map.1 h1
 exact ⟨hi,hj⟩
theorem aPy (base side:List FV):∀(n:Nat) (is js:List Nat),PairsOk is js (alikeF base side n is js)
 | 0,is,js=>by rw[alikeF];exact ⟨by simp,by simp,List.Pairwise.nil⟩
 | n+1,is,js=>by
  rw[alikeF]
  cases hb:bestF base side is js with
  | none=>exact ⟨by simp,by simp,List.Pairwise.nil⟩
  | some p=>
   obtain ⟨h1,h2⟩:=aNn hb
   obtain ⟨a1,a2,a3⟩:=aPy base side n (is.filter fun k=>decide (k≠p.1)) (js.filter fun k=>decide (k≠p.2))
   have e1:∀q∈alikeF base side n (is.filter fun k=>decide (k≠p.1)) (js.filter fun k=>decide (k≠p.2)),q.1∈is/\q.1≠p.1:=fun q hq=>by
    obtain ⟨h3,h4⟩:=List.mem_filter.1 (a1 q hq);exact ⟨h3,by simpa using h4⟩
   have e2:∀q∈alikeF base side n (is.filter fun k=>decide (k≠p.1)) (js.filter fun k=>decide (k≠p.2)),q.2∈js/\q.2≠p.2:=fun q hq=>by
    obtain ⟨h3,h4⟩:=List.mem_filter.1 (a2 q hq);exact ⟨h3,by simpa using h4⟩
   dsimp only
   refine ⟨fun q hq=>?_,fun q hq=>?_,List.pairwise_cons.2 ⟨fun q hq=>⟨fun h=>(e1 q hq).2 h.symm,fun h=>(e2 q hq).2 h.symm⟩,a3⟩⟩
   ·rcases List.mem_cons.1 hq with rfl | hq
    ·exact h1
    exact (e1 q hq).1
   rcases List.mem_cons.1 hq with rfl | hq
   ·exact h2
   exact (e2 q hq).1
theorem aEp (base side:List FV):PairsOk (loneF base side) (loneF side base) (pairsF base side):=by
 have hn:(loneF base side).Nodup:=List.nodup_range.sublist List.filter_sublist
 obtain ⟨⟨a1,a2,a3⟩,b,c,d,e⟩:=aJh base side (loneF base side) (loneF side base) hn
 obtain ⟨f1,f2,f3⟩:=aPy base side (sameF base side (loneF base side) (loneF side base)).2.1.length (sameF base side (loneF base side) (loneF side base)).2.1 (sameF base side (loneF base side) (loneF side base)).2.2
 unfold pairsF
 dsimp only
 refine ⟨fun p hp=>?_,fun p hp=>?_,List.pairwise_append.2 ⟨a3,f3,fun p hp q hq=>⟨fun h=>(d p hp).1 (by rw[h];exact f1 q hq),fun h=>(d p hp).2 (by rw[h];exact f2 q hq)⟩⟩⟩
 ·rcases List.mem_append.1 hp with hp | hp
  ·exact a1 p hp
  exact b _ (f1 p hp)
 rcases List.mem_append.1 hp with hp | hp
 ·exact a2 p hp
 exact c _ (f2 p hp)
theorem aTm {α:Type}{R:α->α->Prop}:∀{l:List α},l.Pairwise R->∀{x y:α},x∈l->y∈l->x=y\/R x y\/R y x
 | z::l,h,x,y,hx,hy=>by
  obtain ⟨h1,h2⟩:=List.pairwise_cons.1 h
  rcases List.mem_cons.1 hx with e1 | hx2
  ·rcases List.mem_cons.1 hy with e2 | hy2
   ·exact .inl (e1.trans e2.symm)
   exact .inr (.inl (e1▸h1 y hy2))
  rcases List.mem_cons.1 hy with e2 | hy2
  ·exact .inr (.inr (e2▸h1 x hx2))
  exact aTm h2 hx2 hy2
theorem aNv:∀(l:List FV),(l.Pairwise fun x y=>x.path≠y.path)->Rise (sortF l)/\∀x,x∈sortF l↔x∈l:=by
 have key:∀(l out:List FV),Rise out->((out++l).Pairwise fun x y=>x.path≠y.path)->Rise (l.foldl (fun out f=>sortedIn out f) out)/\∀x,x∈l.foldl (fun out f=>sortedIn out f) out↔x∈out\/x∈l:=by
  intro l
  induction l with
  | nil=>intro out h _;exact ⟨h,by simp⟩
  | cons f l ih=>
   intro out h hp
   have hn:hasP out f.path=false:=by
    cases e:hasP out f.path with
    | false=>rfl
    | true=>
     obtain ⟨g,hg,e2⟩:=aGj.1 e
     exact absurd e2 ((List.pairwise_append.1 hp).2.2 g hg f (by simp))
   have hp2:(sortedIn out f++l).Pairwise fun x y=>x.path≠y.path:=by
    obtain ⟨p1,p2,p3⟩:=List.pairwise_append.1 hp
    obtain ⟨p4,p5⟩:=List.pairwise_cons.1 p2
    refine List.pairwise_append.2 ⟨(aGy h hn).pair.imp fun hab e=>absurd (FV.p_inj.2 e) (aGb hab),p5,fun x hx y hy=>?_⟩
    rcases aIr.1 hx with rfl | hx
    ·exact p4 y hy
    exact p3 x hx y (List.mem_cons_of_mem _ hy)
   obtain ⟨h1,h2⟩:=ih (sortedIn out f) (aGy h hn) hp2
   refine ⟨h1,fun x=>?_⟩
   rw[List.foldl_cons,h2,aIr,List.mem_cons]
   constructor
   ·rintro ((h | h) | h)
    ·exact .inr (.inl h)
    ·exact .inl h
    exact .inr (.inr h)
   rintro (h | h | h)
   ·exact .inl (.inr h)
   ·exact .inl (.inl h)
   exact .inr h
 intro l h
 obtain ⟨h1,h2⟩:=key l [] (aEi List.Pairwise.nil) (by simpa using h)
 exact ⟨h1,fun x=>by rw[sortF,h2];simp⟩
def bothOut (f o t:FV):FV×Int:=
 let kind:Int:=if o.path=f.path then 0 else if t.path≠f.path/\t.path≠o.path then 4 else 0
 (⟨if o.path=f.path then t.path else o.path,if o.exec=f.exec then t.exec else o.exec,(merge3F f.text o.text t.text).1⟩,if (merge3F f.text o.text t.text).2=false/\kind=0 then 1 else kind)
def actK (base a b:List FV)(f:FV):Option (FV×Int):=
 match whereF base a f,whereF base b f with
 | some x,some y=>some (bothOut f x y)
 | some x,none=>if x=f then none else some (x,3)
 | none,some y=>if y=f then none else some (y,3)
 | none,none=>none
def actA (theirs:List FV)(x:FV):FV×Int:=
 match findP theirs x.path with
 | none=>(x,0)
 | some y=>if x=y then (x,0) else (⟨x.path,x.exec,(merge3F ⟨#[]⟩ x.text y.text).1⟩,2)
def acts (base a b:List FV):List (FV×Int):=
 base.filterMap (actK base a b)++((addedF base a).map (actA (addedF base b))++((addedF base b).filter fun y=>(findP (addedF base a) y.path).isNone).map fun y=>(y,0))
def putX (m:List FV×List CL)(p:FV×Int):List FV×List CL:=putM m p.1 p.2
theorem aLa (base a b:List FV):∀(l:List FV) (m:List FV×List CL),l.foldl (keptM base a b) m=(l.filterMap (actK base a b)).foldl putX m
 | [],m=>rfl
 | f::l,m=>by
  rw[List.foldl_cons,List.filterMap_cons]
  have h:keptM base a b m f=match actK base a b f with | some p=>putX m p | none=>m:=by
   unfold keptM actK
   cases whereF base a f with
   | none=>
    cases whereF base b f with
    | none=>rfl
    | some y=>by_cases e:y=f<;>simp[e,putX]
   | some x=>
    cases whereF base b f with
    | none=>by_cases e:x=f<;>simp[e,putX]
    | some y=>rfl
  rw[h]
  cases actK base a b f with
  | none=>exact aLa base a b l m
  | some p=>exact aLa base a b l (putX m p)
theorem bCn (ours theirs:List FV)(m:List FV×List CL):addM ours theirs m=(ours.map (actA theirs)++(theirs.filter fun (y:FV)=>(findP ours y.path).isNone).map fun y=>(y,0)).foldl putX m:=by
 unfold addM
 rw[List.foldl_append,List.foldl_map,List.foldl_map]
 have h:addOne theirs=fun m x=>putX m (actA theirs x):=by
  funext m x
  unfold addOne actA
  cases findP theirs x.path with
  | none=>rfl
  | some y=>by_cases e:x=y<;>simp[e,putX]
 rw[h]
 rfl
theorem aHx (base a b:List FV):wholeF base a b=(acts base a b).foldl putX ([],[]):=by
 unfold wholeF acts
 rw[bCn,aLa,<-List.foldl_append]
end Go.Proofs.YtohblmepajhpaaaGreatDoor
