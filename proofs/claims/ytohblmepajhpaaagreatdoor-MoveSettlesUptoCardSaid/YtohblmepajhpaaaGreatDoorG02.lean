/- Texts of the walks, together: Contracts of the library at this seat, laid by the shelf, in plain words. Walks: the program's path.Right. Sets of paths in maps; walks: tree's paths and within. Files in memory; a tree's set of paths. Plain laws of texts: lines; what two lists have in common; the script of edits; three texts, piece by piece, and in one. Walks: the document's Parts and Path. -/
import Derived.Shelf.Strings.SplitShaped
import Derived.Test.YtohblmepajhpaaaGreatDoorRows
import Derived.Maps.OwnSet
import Derived.DeepKeys4
import Derived.Test.YtohblmepajhpaaaGreatDoorG01
set_option maxHeartbeats 4000000
set_option maxRecDepth 100000
open Go.Lib (hid)
namespace Go.Proofs.YtohblmepajhpaaaGreatDoor
open Go.Shelf
def Tryz.lays221_ren:Go.Shelf.Ren:=⟨fun | 221=>168 | 268=>203 | 138=>204 | 143=>205 | 195=>242 | 197=>243 | 218=>244 | 219=>245 | 260=>274 | 217=>275 | 225=>276 | 224=>277 | 267=>278 | 266=>293 | 314=>294 | n=>n,fun | 9=>9 | 3=>3 | 31=>135 | 4=>4 | 0=>0 | 105=>300 | 21=>21 | 5=>5 | 46=>28 | 119=>332 | 139=>335 | 138=>334 | 146=>336 | 51=>257 | n=>n,fun | 1=>0 | 3=>1 | 4=>2 | n=>n⟩
theorem Tryz.lays221:Go.Proofs.Lays.n221 Tryz.prog Tryz.lays221_ren:={
 mixed:=by kernel_rfl
 f138:=Tryz.func204.trans (congrArg some (by kernel_rfl))
 f143:=Tryz.func205.trans (congrArg some (by kernel_rfl))
 f195:=Tryz.func242.trans (congrArg some (by kernel_rfl))
 f197:=Tryz.func243.trans (congrArg some (by kernel_rfl))
 f217:=Tryz.func275.trans (congrArg some (by kernel_rfl))
 f218:=Tryz.func244.trans (congrArg some (by kernel_rfl))
 f219:=Tryz.func245.trans (congrArg some (by kernel_rfl))
 f221:=Tryz.func168.trans (congrArg some (by kernel_rfl))
 f224:=Tryz.func277.trans (congrArg some (by kernel_rfl))
 f225:=Tryz.func276.trans (congrArg some (by kernel_rfl))
 f260:=Tryz.func274.trans (congrArg some (by kernel_rfl))
 f266:=Tryz.func293.trans (congrArg some (by kernel_rfl))
 f267:=Tryz.func278.trans (congrArg some (by kernel_rfl))
 f268:=Tryz.func203.trans (congrArg some (by kernel_rfl))
 f314:=Tryz.func294.trans (congrArg some (by kernel_rfl))
 t0:=Tryz.underlying0
 a0:=Tryz.isAgg0
 z0:=Tryz.sizeOf0
 v0:=Tryz.zeroValue0
 t3:=Tryz.underlying3
 a3:=Tryz.isAgg3
 z3:=Tryz.sizeOf3
 v3:=Tryz.zeroValue3
 t4:=Tryz.underlying4
 a4:=Tryz.isAgg4
 z4:=Tryz.sizeOf4
 v4:=Tryz.zeroValue4
 t5:=Tryz.underlying5
 a5:=Tryz.isAgg5
 z5:=Tryz.sizeOf5
 v5:=Tryz.zeroValue5
 t9:=Tryz.underlying9
 a9:=Tryz.isAgg9
 z9:=Tryz.sizeOf9
 v9:=Tryz.zeroValue9
 t21:=Tryz.underlying21
 a21:=Tryz.isAgg21
 z21:=Tryz.sizeOf21
 v21:=Tryz.zeroValue21
 t31:=Tryz.underlying135
 a31:=Tryz.isAgg135
 z31:=Tryz.sizeOf135
 v31:=Tryz.zeroValue135
 t46:=Tryz.underlying28
 a46:=Tryz.isAgg28
 z46:=Tryz.sizeOf28
 v46:=Tryz.zeroValue28
 t51:=Tryz.underlying257
 a51:=Tryz.isAgg257
 z51:=Tryz.sizeOf257
 v51:=Tryz.zeroValue257
 t105:=Tryz.underlying300
 a105:=Tryz.isAgg300
 z105:=Tryz.sizeOf300
 v105:=Tryz.zeroValue300
 t119:=Tryz.underlying332
 a119:=Tryz.isAgg332
 z119:=Tryz.sizeOf332
 t138:=Tryz.underlying334
 a138:=Tryz.isAgg334
 z138:=Tryz.sizeOf334
 v138:=Tryz.zeroValue334
 t139:=Tryz.underlying335
 a139:=Tryz.isAgg335
 z139:=Tryz.sizeOf335
 v139:=Tryz.zeroValue335
 t146:=Tryz.underlying336
 a146:=Tryz.isAgg336
 z146:=Tryz.sizeOf336
 v146:=Tryz.zeroValue336
 g1:=by kernel_rfl
 g3:=by kernel_rfl
 g4:=by kernel_rfl }
open Go.RowKit Go.Lib in
theorem Tryz.strings_genSplit (s sep:ByteArray)(sv:Nat)(n:Int)(N:Nat)(m:Int)(w:World)(hs:s.size<4294967281)(hm:w.cell? ⟨0,0,none⟩=some (.int .i64 m))(h1:1<=sep.size)(hsv:sv<=sep.size)(hn0:n≠0)(hn63:n<=9223372036854775807)(hN:(N:Int)=min (if n<0 then (Lib.countB s sep:Int)+1 else n) ((s.size:Int)+1)) :
  Calls Tryz.prog 168 #[.string s,.string sep,.int .i64 sv,.int .i64 n] w fun e w'=>
   e=.returned (.slice (some ⟨w.heap.size,0,none⟩) (Lib.splitB sep sv (N-1) s).length N)/\w'=w.alloc (.cells (Lib.cellsOf (Lib.splitB sep sv (N-1) s) N) 9):=Any.strings_genSplit Tryz.lays221 (by kernel_rfl) s sep sv n N m w hs hm h1 hsv hn0 hn63 hN
def Tryz.lays146_ren:Go.Shelf.Ren:=⟨fun | 146=>149 | 221=>168 | 268=>203 | 138=>204 | 143=>205 | 195=>242 | 197=>243 | 218=>244 | 219=>245 | 260=>274 | 217=>275 | 225=>276 | 224=>277 | 267=>278 | 266=>293 | 314=>294 | n=>n,fun | 9=>9 | 31=>135 | 3=>3 | 4=>4 | 0=>0 | 105=>300 | 21=>21 | 5=>5 | 46=>28 | 119=>332 | 139=>335 | 138=>334 | 146=>336 | 51=>257 | n=>n,fun | 1=>0 | 3=>1 | 4=>2 | n=>n⟩
theorem Tryz.lays146:Go.Proofs.Lays.n146 Tryz.prog Tryz.lays146_ren:={
 mixed:=by kernel_rfl
 f138:=Tryz.func204.trans (congrArg some (by kernel_rfl))
 f143:=Tryz.func205.trans (congrArg some (by kernel_rfl))
 f146:=Tryz.func149.trans (congrArg some (by kernel_rfl))
 f195:=Tryz.func242.trans (congrArg some (by kernel_rfl))
 f197:=Tryz.func243.trans (congrArg some (by kernel_rfl))
 f217:=Tryz.func275.trans (congrArg some (by kernel_rfl))
 f218:=Tryz.func244.trans (congrArg some (by kernel_rfl))
 f219:=Tryz.func245.trans (congrArg some (by kernel_rfl))
 f221:=Tryz.func168.trans (congrArg some (by kernel_rfl))
 f224:=Tryz.func277.trans (congrArg some (by kernel_rfl))
 f225:=Tryz.func276.trans (congrArg some (by kernel_rfl))
 f260:=Tryz.func274.trans (congrArg some (by kernel_rfl))
 f266:=Tryz.func293.trans (congrArg some (by kernel_rfl))
 f267:=Tryz.func278.trans (congrArg some (by kernel_rfl))
 f268:=Tryz.func203.trans (congrArg some (by kernel_rfl))
 f314:=Tryz.func294.trans (congrArg some (by kernel_rfl))
 t0:=Tryz.underlying0
 a0:=Tryz.isAgg0
 z0:=Tryz.sizeOf0
 v0:=Tryz.zeroValue0
 t3:=Tryz.underlying3
 a3:=Tryz.isAgg3
 z3:=Tryz.sizeOf3
 v3:=Tryz.zeroValue3
 t4:=Tryz.underlying4
 a4:=Tryz.isAgg4
 z4:=Tryz.sizeOf4
 v4:=Tryz.zeroValue4
 t5:=Tryz.underlying5
 a5:=Tryz.isAgg5
 z5:=Tryz.sizeOf5
 v5:=Tryz.zeroValue5
 t9:=Tryz.underlying9
 a9:=Tryz.isAgg9
 z9:=Tryz.sizeOf9
 v9:=Tryz.zeroValue9
 t21:=Tryz.underlying21
 a21:=Tryz.isAgg21
 z21:=Tryz.sizeOf21
 v21:=Tryz.zeroValue21
 t31:=Tryz.underlying135
 a31:=Tryz.isAgg135
 z31:=Tryz.sizeOf135
 v31:=Tryz.zeroValue135
 t46:=Tryz.underlying28
 a46:=Tryz.isAgg28
 z46:=Tryz.sizeOf28
 v46:=Tryz.zeroValue28
 t51:=Tryz.underlying257
 a51:=Tryz.isAgg257
 z51:=Tryz.sizeOf257
 v51:=Tryz.zeroValue257
 t105:=Tryz.underlying300
 a105:=Tryz.isAgg300
 z105:=Tryz.sizeOf300
 v105:=Tryz.zeroValue300
 t119:=Tryz.underlying332
 a119:=Tryz.isAgg332
 z119:=Tryz.sizeOf332
 t138:=Tryz.underlying334
 a138:=Tryz.isAgg334
 z138:=Tryz.sizeOf334
 v138:=Tryz.zeroValue334
 t139:=Tryz.underlying335
 a139:=Tryz.isAgg335
 z139:=Tryz.sizeOf335
 v139:=Tryz.zeroValue335
 t146:=Tryz.underlying336
 a146:=Tryz.isAgg336
 z146:=Tryz.sizeOf336
 v146:=Tryz.zeroValue336
 g1:=by kernel_rfl
 g3:=by kernel_rfl
 g4:=by kernel_rfl }
open Go.RowKit Go.Lib in
theorem Tryz.strings_Split (s sep:ByteArray)(m:Int)(w:World)(hs:s.size<4294967281)(hm:w.cell? ⟨0,0,none⟩=some (.int .i64 m))(h1:1<=sep.size) :
  Calls Tryz.prog 149 #[.string s,.string sep] w fun e w'=>
   e=.returned (.slice (some ⟨w.heap.size,0,none⟩) (Lib.countB s sep+1) (Lib.countB s sep+1))/\w'=w.alloc (.cells ((Lib.splitB sep 0 (Lib.countB s sep) s).map Value.string).toArray 9):=Any.strings_Split Tryz.lays146 (by kernel_rfl) s sep m w hs hm h1
def Tryz.laysM146_ren:Go.Shelf.Ren:=⟨fun | 146=>149 | 221=>168 | 268=>203 | 138=>204 | 143=>205 | 195=>242 | 197=>243 | 218=>244 | 219=>245 | 260=>274 | 217=>275 | 225=>276 | 224=>277 | 267=>278 | 266=>293 | 314=>294 | n=>n,fun | 9=>9 | 31=>135 | 3=>3 | 4=>4 | 0=>0 | 105=>300 | 21=>21 | 5=>5 | 46=>28 | 119=>332 | 139=>335 | 138=>334 | 146=>336 | 51=>257 | n=>n,fun | 1=>0 | 3=>1 | 4=>2 | n=>n⟩
theorem Tryz.laysM146:Go.Proofs.LaysM.n146 Tryz.prog Tryz.laysM146_ren:={
 mixed:=by kernel_rfl
 f138:=Tryz.func204.trans (congrArg some (by kernel_rfl))
 f143:=Tryz.func205.trans (congrArg some (by kernel_rfl))
 f146:=Tryz.func149.trans (congrArg some (by kernel_rfl))
 f195:=Tryz.func242.trans (congrArg some (by kernel_rfl))
 f197:=Tryz.func243.trans (congrArg some (by kernel_rfl))
 f217:=Tryz.func275.trans (congrArg some (by kernel_rfl))
 f218:=Tryz.func244.trans (congrArg some (by kernel_rfl))
 f219:=Tryz.func245.trans (congrArg some (by kernel_rfl))
 f221:=Tryz.func168.trans (congrArg some (by kernel_rfl))
 f224:=Tryz.func277.trans (congrArg some (by kernel_rfl))
 f225:=Tryz.func276.trans (congrArg some (by kernel_rfl))
 f260:=Tryz.func274.trans (congrArg some (by kernel_rfl))
 f266:=Tryz.func293.trans (congrArg some (by kernel_rfl))
 f267:=Tryz.func278.trans (congrArg some (by kernel_rfl))
 f268:=Tryz.func203.trans (congrArg some (by kernel_rfl))
 f314:=Tryz.func294.trans (congrArg some (by kernel_rfl))
 t0:=Tryz.underlying0
 a0:=Tryz.isAgg0
 z0:=Tryz.sizeOf0
 v0:=Tryz.zeroValue0
 t3:=Tryz.underlying3
 a3:=Tryz.isAgg3
 z3:=Tryz.sizeOf3
 v3:=Tryz.zeroValue3
 t4:=Tryz.underlying4
 a4:=Tryz.isAgg4
 z4:=Tryz.sizeOf4
 v4:=Tryz.zeroValue4
 t5:=Tryz.underlying5
 a5:=Tryz.isAgg5
 z5:=Tryz.sizeOf5
 v5:=Tryz.zeroValue5
 t9:=Tryz.underlying9
 a9:=Tryz.isAgg9
 z9:=Tryz.sizeOf9
 v9:=Tryz.zeroValue9
 t21:=Tryz.underlying21
 a21:=Tryz.isAgg21
 z21:=Tryz.sizeOf21
 v21:=Tryz.zeroValue21
 t31:=Tryz.underlying135
 a31:=Tryz.isAgg135
 z31:=Tryz.sizeOf135
 v31:=Tryz.zeroValue135
 t46:=Tryz.underlying28
 a46:=Tryz.isAgg28
 z46:=Tryz.sizeOf28
 v46:=Tryz.zeroValue28
 t51:=Tryz.underlying257
 a51:=Tryz.isAgg257
 z51:=Tryz.sizeOf257
 v51:=Tryz.zeroValue257
 t105:=Tryz.underlying300
 a105:=Tryz.isAgg300
 z105:=Tryz.sizeOf300
 v105:=Tryz.zeroValue300
 t119:=Tryz.underlying332
 a119:=Tryz.isAgg332
 z119:=Tryz.sizeOf332
 t138:=Tryz.underlying334
 a138:=Tryz.isAgg334
 z138:=Tryz.sizeOf334
 v138:=Tryz.zeroValue334
 t139:=Tryz.underlying335
 a139:=Tryz.isAgg335
 z139:=Tryz.sizeOf335
 v139:=Tryz.zeroValue335
 t146:=Tryz.underlying336
 a146:=Tryz.isAgg336
 z146:=Tryz.sizeOf336
 v146:=Tryz.zeroValue336
 g1:=by kernel_rfl
 g3:=by kernel_rfl
 g4:=by kernel_rfl
 i0:=by kernel_rfl
 i3:=by kernel_rfl
 i4:=by kernel_rfl
 i5:=by kernel_rfl
 i9:=by kernel_rfl
 i21:=by kernel_rfl
 i31:=by kernel_rfl
 i46:=by kernel_rfl
 i51:=by kernel_rfl
 i105:=by kernel_rfl
 i138:=by kernel_rfl
 i139:=by kernel_rfl
 i146:=by kernel_rfl
 m1:=by kernel_rfl
 s1_3:=fun w h=>Go.Proofs.cell_of_shapedOpen_int (zero:=#[.int .i64 0]) (t:=3) h (of_decide_eq_true (by kernel_rfl)) (by kernel_rfl) rfl (by kernel_rfl) (by kernel_rfl) Tryz.underlying3
 m3:=by kernel_rfl
 m4:=by kernel_rfl }
end Go.Proofs.YtohblmepajhpaaaGreatDoor
namespace Go.Proofs.YtohblmepajhpaaaGreatDoor
open Go.RowKit
def Lm (w:World):Prop:=∃m,w.cell? ⟨0,0,none⟩=some (.int .i64 m)
theorem Lm.below {w w':World}{B:Nat}(h:Lm w)(hb:Below B w w')(hB:0<B):Lm w':=by
 obtain ⟨m,hm⟩:=h
 exact ⟨m,(hb.cell (p:=⟨0,0,none⟩) hB).trans hm⟩
theorem Lm.lt {w:World}(h:Lm w):0<w.heap.size:=by
 obtain ⟨m,hm⟩:=h
 exact World.block_lt_of_cell? _ _ hm
theorem Lm.to {w w':World}(h:Lm w)(hb:Below w.heap.size w w'):Lm w':=h.below hb h.lt
theorem Lm.shaped {w:World}(h:w.ShapedOpen Tryz.prog):Lm w:=Tryz.laysM146.s1_3 w h
theorem aPh {p:ByteArray}{l:Bs}:p=⟨l.toArray⟩↔p.data.toList=l:=by
 constructor
 ·intro h;rw[h]
 intro h
 cases p with
 | mk d=>simp at h;rw[<-h]
theorem aCh {x y:ByteArray}(h:x.data.toList=y.data.toList):x=y:=aPh.2 h
theorem aVg (w:World)(e:TypeId)(s:ByteArray):Below w.heap.size w (Lib.bytesWorld w e s):=
 ⟨by simp only[Lib.bytesWorld,World.freeze];rfl,by simp only[Lib.bytesWorld,World.freeze];rfl,by simp only[Lib.bytesWorld,World.freeze];rfl,by rw[Lib.bytesWorld_size];omega,fun k hk=>Lib.bytesWorld_at_old w e s k hk⟩
theorem bFq (w:World)(e:TypeId)(s:ByteArray):Rd (Lib.bytesWorld w e s) (w.heap.size+1) 1 (some ⟨w.heap.size,0,none⟩) s.size (grownCap w s.size 0 e) (cells8 s.data.toList):=by
 have hl:s.data.toList.length=s.size:=rfl
 refine ⟨by rw[aNt,hl];omega,?_,fun _=>⟨_,0,rfl,by omega,fun j u hu=>?_⟩⟩
 ·exact grownCap_ge _ _ _ _
 rw[cells8,List.getElem?_map,Option.map_eq_some_iff] at hu
 obtain ⟨x,hx,rfl⟩:=hu
 have hj:j<s.size:=by rw[<-hl];exact (List.getElem?_eq_some_iff.1 hx).1
 have:=Lib.bytesWorld_cell w e s j hj
 rw[Nat.zero_add,this,List.getD,hx];rfl
def partOkB (p:ByteArray):Bool:=partOk p.data.toList
theorem aDa {p:ByteArray}(h:p=⟨#[]⟩\/p=⟨#[46]⟩\/p=⟨#[46,46]⟩):partOkB p=false:=by
 rcases h with rfl | rfl | rfl<;>rfl
theorem aNe {p:ByteArray}(h0:p≠⟨#[]⟩)(h1:p≠⟨#[46]⟩)(h2:p≠⟨#[46,46]⟩):partOkB p=true:=by
 have e0:¬p.data.toList=[]:=fun e=>h0 (aPh.2 e)
 have e1:¬p.data.toList=[46]:=fun e=>h1 (aPh.2 e)
 have e2:¬p.data.toList=[46,46]:=fun e=>h2 (aPh.2 e)
 simp[partOkB,partOk,e0,e1,e2]
theorem aUx (p:ByteArray)(w:World):Calls Tryz.prog 127 #[.string p] w fun e w'=>e=.returned (.bool (!partOkB p))/\w'=w:=by
 by_cases h0:p=⟨#[]⟩
 ·have HO:=hid (aDa (.inl h0))
  subst h0
  go_enter Tryz.func127,Tryz.ntmps127
  go_wp2
  go_ret
  exact ⟨aAf (by rw[HO.out];rfl),rfl⟩
 by_cases h1:p=⟨#[46]⟩
 ·have HO:=hid (aDa (.inr (.inl h1)))
  subst h1
  go_enter Tryz.func127,Tryz.ntmps127
  go_wp2
  go_ret
  exact ⟨aAf (by rw[HO.out];rfl),rfl⟩
 by_cases h2:p=⟨#[46,46]⟩
 ·have HO:=hid (aDa (.inr (.inr h2)))
  subst h2
  go_enter Tryz.func127,Tryz.ntmps127
  go_wp2
  go_ret
  exact ⟨aAf (by rw[HO.out];rfl),rfl⟩
 have HO:=hid (aNe h0 h1 h2)
 have n0:¬p.toList=[]:=fun e=>h0 (aCh (by rw[<-Lib.toList_data];exact e))
 have n1:¬p.toList=[46]:=fun e=>h1 (aCh (by rw[<-Lib.toList_data];exact e))
 have n2:¬p.toList=[46,46]:=fun e=>h2 (aCh (by rw[<-Lib.toList_data];exact e))
 clear h0 h1 h2
 go_enter Tryz.func127,Tryz.ntmps127
 go_wp2
 go_ret
 exact ⟨aAf (by rw[HO.out];simp[n0,n1,n2]),rfl⟩
theorem bAt {A:Option Addr}{n c BB:Nat}{l:List ByteArray}{w:World}(hn:n<=maxLen)(hBB:BB<=w.heap.size)(h:Rd w BB 1 A n c (l.map .string)) :
  Calls Tryz.prog 148 #[.slice A n c,.func (.func 127) #[] #[]] w (PlaceOf (!l.all partOkB) n w):=by
 have HL:=hid (show l.length=n by have:=h.len;rw[List.length_map] at this;omega)
 unfold maxLen at hn
 go_enter Tryz.func148,Tryz.ntmps148
 go_wp2
 go_loopw[8] (fun i wr=>∃k:Nat,k<=n/\i=.int .i64 k/\Below w.heap.size w wr/\Hid (∀u∈l.take k,partOkB u=true)) (fun i _=>n-(intOf i).toNat)
 case atStart=>exact ⟨0,Nat.zero_le _,rfl,Below.refl _ _,by rw[List.take_zero];intro m hm;cases hm⟩
 obtain ⟨k,hk,rfl,hb,hj⟩:=hrel
 by_cases hlt:k<n
 ·obtain ⟨b0,o0,u,rfl,hbb,hx,h0⟩:=h.str hlt
  replace h0:=(hb.cell (p:=⟨b0,o0+k,none⟩) (by show b0<_;omega)).trans h0
  have HX:=hid hx;clear hx
  go_wp2_with fail
  refine (aUx u _).mono ?_
  rintro e w1 ⟨rfl,rfl⟩
  cases hd:partOkB u
  ·have HD:=hid hd
   clear hd
   go_wp2
   go_ret
   refine ⟨k,rfl,?_,by omega,by omega,hb⟩
   rw[decide_eq_true (by omega),Bool.not_eq_true',List.all_eq_false]
   exact ⟨u,List.mem_of_getElem? HX.out,by rw[HD.out];simp⟩
  have HD:=hid hd
  clear hd
  go_wp2
  go_roundw
  case rel=>
   refine ⟨k+1,by omega,by go_num,hb,?_⟩
   intro m hm
   rw[List.take_add_one,HX.out] at hm
   rcases List.mem_append.1 hm with hm | hm
   ·exact hj m hm
   simp at hm;subst hm;exact HD.out
  simp[intOf];omega
 have hkn:k=n:=by omega
 subst hkn
 go_wp2
 go_ret
 refine ⟨-1,rfl,?_,by omega,by omega,hb⟩
 rw[decide_eq_false (by omega)]
 have:=hj.out
 rw[List.take_of_length_le (by rw[HL.out];omega)] at this
 rw[List.all_eq_true.2 this];rfl
theorem bFw {A:Option Addr}{n c BB:Nat}{l:Bs}{w:World}(hn:n<=maxLen)(hBB:BB<=w.heap.size)(h:Rd w BB 1 A n c (cells8 l)) :
  Calls Tryz.prog 123 #[.slice A n c,.func (.func 124) #[] #[]] w (BoolBelow (!l.all byteOk) w):=by
 go_enter Tryz.func123,Tryz.ntmps123
 go_wp2_with fail
 refine (aZm hn hBB h).mono ?_
 rintro e w1 ⟨k,rfl,hk,h1,h2,hb⟩
 unfold maxLen at hn
 have HK:=hid hk
 clear hk
 by_cases h0:(0:Int)<=k
 ·go_wp2
  go_ret
  exact ⟨aAf (by simp[HK.out,h0]),hb⟩
 go_wp2
 go_ret
 exact ⟨aAf (by simp[HK.out]),hb⟩
theorem bGv {A:Option Addr}{n c BB:Nat}{l:List ByteArray}{w:World}(hn:n<=maxLen)(hBB:BB<=w.heap.size)(h:Rd w BB 1 A n c (l.map .string)) :
  Calls Tryz.prog 125 #[.slice A n c,.func (.func 127) #[] #[]] w (BoolBelow (!l.all partOkB) w):=by
 go_enter Tryz.func125,Tryz.ntmps125
 go_wp2_with fail
 refine (bAt hn hBB h).mono ?_
 rintro e w1 ⟨k,rfl,hk,h1,h2,hb⟩
 unfold maxLen at hn
 have HK:=hid hk
 clear hk
 by_cases h0:(0:Int)<=k
 ·go_wp2
  go_ret
  exact ⟨aAf (by simp[HK.out,h0]),hb⟩
 go_wp2
 go_ret
 exact ⟨aAf (by simp[HK.out]),hb⟩
def PartsIs (s:ByteArray)(w:World)(e:Ending) (w':World):Prop:=
 ∃ps:List ByteArray,e=.returned (.slice (some ⟨w.heap.size,0,none⟩) ps.length ps.length)/\ps.map (·.data.toList)=parts s.data.toList/\
  Rd w' (w.heap.size+1) 1 (some ⟨w.heap.size,0,none⟩) ps.length ps.length (ps.map .string)/\Below w.heap.size w w'/\w.heap.size+1<=w'.heap.size/\ps.length<=s.size+1
theorem aSi {s:ByteArray}{w:World}(hs:s.size<4294967281)(hm:Lm w):Calls Tryz.prog 126 #[.string s] w (PartsIs s w):=by
 obtain ⟨m,hm⟩:=hm
 have hlen:=Lib.splitB_all ⟨#[47]⟩ (by decide) 0 _ s rfl
 have hp:=aUl s
 have hcl:=Lib.countB_le ⟨#[47]⟩ (by decide) s.size s (Nat.le_refl _)
 go_enter Tryz.func126,Tryz.ntmps126
 go_wp2_with fail
 refine (Tryz.strings_Split s ⟨#[47]⟩ m w hs hm (by decide)).mono ?_
 rintro e w1 ⟨rfl,rfl⟩
 generalize Lib.splitB ⟨#[47]⟩ 0 (Lib.countB s ⟨#[47]⟩) s=ps at *
 rw[<-hlen]
 go_wp2
 go_ret
 refine ⟨ps,by rw[hlen];rfl,hp,⟨by simp,Nat.le_refl _,fun _=>⟨_,0,rfl,by omega,fun j u hu=>?_⟩⟩,(Below.refl _ _).alloc (Nat.le_refl _) _,by simp,by omega⟩
 rw[Nat.zero_add,World.cell?,heap_alloc_new]
 simpa using hu
theorem aLz {ps:List ByteArray}{s:ByteArray}(h:ps.map (·.data.toList)=parts s.data.toList):ps.all partOkB=(parts s.data.toList).all partOk:=by
 rw[<-h,List.all_map];rfl
theorem aPt {s:ByteArray}{w:World}(hm:Lm w):Calls Tryz.prog 104 #[.string s] w (BoolBelow (pathOk s.data.toList) w):=by
 have hl:s.data.toList.length=s.size:=rfl
 by_cases h0:s.size=0
 ·have HP:=hid (show pathOk s.data.toList=false by rw[pathOk,hl,decide_eq_false (by omega)];rfl)
  have hz:(s.size:Int)=0:=by omega
  go_enter Tryz.func104,Tryz.ntmps104
  go_wp2
  go_ret
  exact ⟨aAf HP.out.symm,Below.refl _ _⟩
 obtain ⟨hz,_⟩:=aFf (u:=(s.size:Int)) (v:=0) (by omega)
 by_cases h1:100<s.size
 ·have HP:=hid (show pathOk s.data.toList=false by rw[pathOk,hl,decide_eq_false (p:=s.size<=100) (by omega)];simp)
  have hz2:(100:Int)<s.size:=by omega
  go_enter Tryz.func104,Tryz.ntmps104
  go_wp2
  go_ret
  exact ⟨aAf HP.out.symm,Below.refl _ _⟩
 have hz2:¬(100:Int)<s.size:=by omega
 have hcv:=Lib.run_convert_string_bytes w 9 102 5 s Tryz.underlying9 Tryz.underlying102 Tryz.underlying5
 have HB:=aVg w 5 s
 have HR:=bFq w 5 s
 have HZ:=Lib.bytesWorld_size w 5 s
 go_enter Tryz.func104,Tryz.ntmps104
 go_wp2_with fail
 refine (bFw (by simp only[maxLen];omega) (by omega) HR).mono ?_
 rintro e w1 ⟨rfl,hb1⟩
 have hB1:Below w.heap.size w w1:=HB.trans (hb1.mono (by omega))
 clear hcv HB HR hb1 HZ
 have hm1:=hm.to hB1
 cases hd:s.data.toList.all byteOk
 ·have HP:=hid (show pathOk s.data.toList=false by rw[pathOk,hd];simp)
  clear hd
  go_wp2
  go_ret
  exact ⟨aAf HP.out.symm,hB1⟩
 have HP:=hid (show pathOk s.data.toList=(parts s.data.toList).all partOk by rw[pathOk,hd,hl,decide_eq_true (by omega),decide_eq_true (by omega)];rfl)
 clear hd
 go_wp2_with fail
 refine (aSi (by omega) hm1).mono ?_
 rintro e w2 ⟨ps,rfl,hps,hr2,hb2,hs2,hle⟩
 have HPS:=hid hps
 clear hps
 go_wp2_with fail
 refine (bGv (by simp only[maxLen];omega) hs2 hr2).mono ?_
 rintro e w3 ⟨rfl,hb3⟩
 have HB3:=hid (hB1.trans ((hb2.mono hB1.size).trans (hb3.mono (by have:=hB1.size;have:=hb2.size;omega))))
 clear hb3 hb2 hr2
 go_wp2
 go_ret
 exact ⟨aAf (by rw[HP.out,<-aLz HPS.out]),HB3.out⟩
theorem T.laidOut:laidOutB Tryz.prog=true:=by kernel_rfl
theorem wideP:(match Tryz.prog.underlying 172 with | some (.array _ _) | some (.struct _)=>true | _=>false)=true:=by kernel_rfl
theorem KP:Maps.Keyed Tryz.prog 172:=Maps.Keyed.of_law (deep_law_laid T.laidOut (m:=2) (by omega) (of_decide_eq_true (by kernel_rfl)) (by kernel_rfl) wideP)
def klP (q:ByteArray):Lit:=.string (keyBytes [.string q.data.toList])
theorem T.types_pos:(0:Nat)<Tryz.prog.types.size:=of_decide_eq_true (by kernel_rfl)
theorem bEy {P : Program} {t e : TypeId} {f : Field} (hu : P.underlying t = some (.struct #[f])) (hft : f.type = e) (hfo : f.offset = 0) (hfn : (f.name != "_") = true) (hct : P.cellsOf t = 1) (hce : P.cellsOf e = 1)
  (hue:P.underlying e=some .string) (hk:P.keyType t=true) (hp:0<P.types.size) {x:ByteArray} (hw:x.size<=maxLen):keyOf P t (.agg #[.string x])=some (klP x):=by
 obtain ⟨k,hs⟩:∃k,P.types.size=k+1:=⟨P.types.size-1,by omega⟩
 have h1:P.keyLits (k+1) e [.string x]=some [.string x.data.toList]:=by simp[Program.keyLits,hue,hw]
 have h2:P.keyLits (k+1+1) t [.string x]=some [.string x.data.toList]:=by
  unfold Program.keyLits
  simp only[hu]
  have hfn' : ¬ f.name = "_" := by simpa using hfn
  simp[hct,hft,hfo,hce,h1,hfn']
 simp[keyOf,hu,hk,Value.formed,hct,Value.cells,hs,h2,klP]
theorem bEh:Tryz.prog.keyType 172=true:=by kernel_rfl
theorem cellsP:Tryz.prog.cellsOf 172=1:=by kernel_rfl
theorem aSh:Tryz.prog.cellsOf 9=1:=by kernel_rfl
theorem keyP {x:ByteArray}(h:x.size<=maxLen):keyOf Tryz.prog 172 (.agg #[.string x])=some (klP x):=
 bEy Tryz.underlying172 rfl rfl rfl cellsP aSh Tryz.underlying9 bEh T.types_pos h
theorem aOl {x y:ByteArray}(hx:x.size<=maxLen)(hy:y.size<=maxLen)(h:x≠y):klP x≠klP y:=fun e=>by
 have h1:=keyP hx
 rw[e] at h1
 have:=KP.inj h1 (keyP hy)
 simp at this
 exact h this
theorem aJs {x:ByteArray}(hx:x.size<=maxLen):WideAt.IsKeyLit (klP x):=KP.key (keyP hx)
theorem boolT (x:Bool):plainElem (H:=Value) Tryz.prog 4 (.bool x)=some (.lit (.bool x),[]):=plainElem_bool Tryz.underlying4 x
theorem aTl {v:Value}{x:Bool}{ps:List MemPlace}(h:plainElem (H:=Value) Tryz.prog 4 v=some (.lit (.bool x),ps)):v=.bool x:=by
 unfold plainElem at h
 rw[Tryz.underlying4] at h
 cases v<;>simp at h
 rw[h.1]
structure SetP (w:World) (b n:Nat) (D:DataW Value) (S:Bs->Bool):Prop where
 own:w.ownsMap Tryz.prog 172 (plainElem Tryz.prog 4) b n D
 at_:∀q:ByteArray,q.size<=maxLen->D.atKey (klP q) (.lit (.bool false))=.lit (.bool (S q.data.toList))
 has:∀q:ByteArray,q.size<=maxLen->Maps.has D (klP q)=S q.data.toList
theorem SetP.start (w:World):SetP (w.alloc (.map #[] 0)) w.heap.size 0 (.map []) (fun _=>false):=
 ⟨World.ownsMap_made _ _ _ _,fun x _=>by simp[DataW.atKey],fun x _=>rfl⟩
theorem SetP.put {w w':World}{b n:Nat}{D:DataW Value} {S S':Bs->Bool}{k:ByteArray}(h:SetP w b n D S)(hk:k.size<=maxLen)
  (hown:w'.ownsMap Tryz.prog 172 (plainElem Tryz.prog 4) b (n+1) (D.put (klP k) (.lit (.bool true)))) (hS:∀x,S' x=(S x || decide (k.data.toList=x))) :
  SetP w' b (n+1) (D.put (klP k) (.lit (.bool true))) S':=by
 refine ⟨hown,fun x hx=>?_,fun x hx=>?_⟩
 ·by_cases e:x=k
  ·subst e
   rw[Maps.atKey_put_same h.own.isMap (aJs hk),hS,decide_eq_true rfl,Bool.or_true]
  rw[Maps.atKey_put_other (aOl hx hk e),h.at_ x hx,hS,decide_eq_false (fun e2=>e (aCh e2.symm)),Bool.or_false]
 by_cases e:x=k
 ·subst e
  rw[Maps.has_put_same h.own.isMap (aJs hk),hS,decide_eq_true rfl,Bool.or_true]
 rw[Maps.has_put_other (aOl hx hk e),h.has x hx,hS,decide_eq_false (fun e2=>e (aCh e2.symm)),Bool.or_false]
theorem SetP.kept {w w':World}{b n:Nat}{D:DataW Value}{S:Bs->Bool}{row:Option Nat}(h:SetP w b n D S)(hg:w.grownBy w' row)(hne:some b≠row):SetP w' b n D S:=
 ⟨h.own.kept hg hne,h.at_,h.has⟩
theorem SetP.below {w w':World}{b n:Nat}{D:DataW Value}{S:Bs->Bool}(h:SetP w b n D S)(hb:Below w.heap.size w w'):SetP w' b n D S:=
 h.kept (row:=none) ⟨hb.os,hb.tape,hb.output,hb.size,fun k hk _=>hb.block k hk⟩ (by simp)
theorem SetP.look {w:World}{b n:Nat}{D:DataW Value}{S:Bs->Bool}(h:SetP w b n D S){x:ByteArray}(hx:x.size<=maxLen) :
  (Instr.lookup 153 (.map (some b)) (.agg #[.string x]) false).run Tryz.prog w=.ok (.bool (S x.data.toList)) w:=by
 obtain ⟨v,ps,hrun,hv⟩:=h.own.lookup KP Tryz.underlying153 (Tryz.zeroValue4 w) (boolT false) (keyP hx)
 rw[h.at_ x hx] at hv
 rw[aTl hv] at hrun
 exact hrun
theorem bFm (w:World)(x:ByteArray):(Instr.build 172 #[(0,.string x)]).run Tryz.prog w=.ok (.agg #[.string x]) w:=by
 go_simp
def onWay (m:Bs->Bool)(p:Bs):Bool:=match parts p with | s::ss=>way m s ss | []=>false
theorem aRv {m:Bs->Bool}{p:Bs}:onWay m p=true↔∃q,m q=true/\within p q=true:=by
 obtain ⟨s,ss,h,_⟩:=aDu p
 rw[onWay,h]
 exact bDp h
def WayAt (m:Bs->Bool)(p:Bs)(ps:List Bs)(k:Nat)(at_:Bs):Prop:=
 (k=0/\at_=[])\/(1<=k/\at_++tailJ (ps.drop k)=p/\way m at_ (ps.drop k)=onWay m p)
theorem WayAt.first {m:Bs->Bool}{p:Bs}{ps:List Bs}(hp:parts p=ps){s:Bs}(h0:ps[0]? = some s):WayAt m p ps 1 s:=by
 obtain ⟨s',ss',h1,h2⟩:=aDu p
 rw[<-hp,h1] at h0 ⊢
 simp at h0
 subst h0
 refine .inr ⟨Nat.le_refl _,?_,?_⟩
 ·exact h2.symm
 rw[onWay,h1];rfl
theorem WayAt.next {m:Bs->Bool}{p:Bs}{ps:List Bs}{k:Nat}{a s:Bs}(h:WayAt m p ps k a)(hk:1<=k)(hs:ps[k]? = some s) :
  (m a=true->onWay m p=true)/\(m a=false->WayAt m p ps (k+1) (a++47::s)):=by
 have hlt:=(List.getElem?_eq_some_iff.1 hs).1
 have hd:ps.drop k=s::ps.drop (k+1):=by rw[List.drop_eq_getElem_cons hlt,(List.getElem?_eq_some_iff.1 hs).2]
 rcases h with ⟨h0,_⟩ | ⟨_,h2,h3⟩
 ·omega
 rw[hd] at h2 h3
 rw[way] at h3
 constructor
 ·intro hm;rw[<-h3,hm,Bool.true_or]
 intro hm
 rw[hm,Bool.false_or] at h3
 refine .inr ⟨by omega,?_,h3⟩
 rw[<-h2];simp[tailJ]
theorem WayAt.len {m:Bs->Bool}{p:Bs}{ps:List Bs}{k:Nat}{a:Bs}(h:WayAt m p ps k a):a.length<=p.length:=by
 rcases h with ⟨_,rfl⟩ | ⟨_,h2,_⟩
 ·exact Nat.zero_le _
 rw[<-h2];simp
theorem WayAt.done {m:Bs->Bool}{p:Bs}{ps:List Bs}{a:Bs}(h:WayAt m p ps ps.length a)(hp:parts p=ps):onWay m p=false:=by
 rcases h with ⟨h0,_⟩ | ⟨_,_,h3⟩
 ·exact absurd (List.eq_nil_of_length_eq_zero h0) (by rw[<-hp];exact aWv p)
 rw[<-h3,List.drop_length];rfl
theorem bGu {p s:Bs}(h:s∈parts p):s.length<=p.length:=by
 obtain ⟨s0,ss,h1,h2⟩:=aDu p
 rw[h1] at h
 rcases List.mem_cons.1 h with rfl | h
 ·rw[h2];simp
 obtain ⟨a,b,rfl⟩:=List.append_of_mem h
 rw[h2];simp[tailJ];omega
theorem aYp {p:ByteArray}{w:World}{b n:Nat}{D:DataW Value}{m:Bs->Bool}(hs:p.size<=1048576)(hm:Lm w)(h:SetP w b n D m) :
  Calls Tryz.prog 105 #[.map (some b),.string p] w (BoolBelow (onWay m p.data.toList) w):=by
 have hl:p.data.toList.length=p.size:=rfl
 go_enter Tryz.func105,Tryz.ntmps105
 go_wp2_with fail
 refine (aSi (by omega) hm).mono ?_
 rintro e w1 ⟨ps,rfl,hps,hr,hb1,hs1,hle⟩
 have HP:=hid hps
 clear hps
 go_wp2
 go_loopw[5,11] (fun av kv wr=>∃(k:Nat) (a:ByteArray),k<=ps.length/\kv=.int .i64 k/\av=.string a/\Hid (WayAt m p.data.toList (ps.map (·.data.toList)) k a.data.toList)/\Below w.heap.size w wr/\Below w1.heap.size w1 wr) (fun _ kv _=>ps.length-(intOf kv).toNat)
 case atStart=>exact ⟨0,⟨#[]⟩,Nat.zero_le _,rfl,rfl,.inl ⟨rfl,rfl⟩,hb1,Below.refl _ _⟩
 obtain ⟨k,a,hk,rfl,rfl,hw,hb,hb2⟩:=hrel
 by_cases hlt:k<ps.length
 ·obtain ⟨b0,o0,u,e0,hbb,hx,h0⟩:=hr.str hlt
  cases e0
  replace h0:=(hb2.cell (p:=⟨w.heap.size,0+k,none⟩) (by show w.heap.size<_;omega)).trans h0
  rw[Nat.zero_add] at h0
  have hx':(ps.map (·.data.toList))[k]? = some u.data.toList:=by rw[List.getElem?_map,hx];rfl
  have hal:a.size<=p.size:=by have:=WayAt.len hw.out;exact this
  have hul:u.size<=p.size:=by
   refine bGu (p:=p.data.toList) (s:=u.data.toList) ?_
   rw[<-HP.out];exact List.mem_of_getElem? hx'
  have HX:=hid hx'
  clear hx hx'
  by_cases hk0:k=0
  ·subst hk0
   go_wp2
   go_roundw
   case rel=>
    refine ⟨1,a++u,by omega,by go_num,rfl,?_,hb,hb2⟩
    have ha:a.data.toList=[]:=by
     rcases hw.out with ⟨_,h⟩ | ⟨h,_⟩
     ·exact h
     omega
    have e:(a++u).data.toList=u.data.toList:=by rw[ByteArray.data_append,Array.toList_append,ha,List.nil_append]
    show WayAt _ _ _ 1 (a++u).data.toList
    rw[e]
    exact WayAt.first HP.out.symm HX.out
   simp[intOf];omega
  have hk1:1<=k:=by omega
  have hki:(0:Int)<k:=by omega
  have hlk:=(h.below (hb.mono (Nat.le_refl _))).look (x:=a) (by unfold maxLen;omega)
  obtain ⟨n1,n2⟩:=WayAt.next hw.out hk1 HX.out
  cases hma:m a.data.toList with
  | true=>
   rw[hma] at hlk
   have HO:=hid (n1 hma)
   clear n1 n2
   go_wp2
   go_ret
   exact ⟨aAf HO.out.symm,hb⟩
  | false=>
   rw[hma] at hlk
   have HO:=hid (n2 hma)
   clear n1 n2
   have hz:(⟨#[47]⟩:ByteArray).size=1:=rfl
   go_wp2
   go_roundw
   case rel=>
    refine ⟨k+1,a++⟨#[47]⟩++u,by omega,by go_num,rfl,?_,hb,hb2⟩
    have e:(a++⟨#[47]⟩++u).data.toList=a.data.toList++47::u.data.toList:=by
     rw[ByteArray.data_append,ByteArray.data_append,Array.toList_append,Array.toList_append];simp
    show WayAt _ _ _ (k+1) (a++⟨#[47]⟩++u).data.toList
    rw[e]
    exact HO.out
   simp[intOf];omega
 have hkn:k=ps.length:=by omega
 subst hkn
 have HO:=hid (show onWay m p.data.toList=false from by
  have:=hw.out
  rw[<-List.length_map (f:=fun x:ByteArray=>x.data.toList)] at this
  exact this.done HP.out.symm)
 go_wp2
 go_ret
 exact ⟨aAf HO.out.symm,hb⟩
theorem T.flat_at {α:Type}{f:α->List Value}{sz:Nat}(hf:∀a,(f a).length=sz):∀{l:List α} {k t:Nat} {a:α},l[k]? = some a->t<sz->(l.flatMap f)[k*sz+t]? = (f a)[t]?
 | x::l,0,t,a,h,ht=>by
  simp at h;subst h
  rw[List.flatMap_cons,Nat.zero_mul,Nat.zero_add,List.getElem?_append_left (by rw[hf];exact ht)]
 | x::l,k+1,t,a,h,ht=>by
  simp at h
  rw[List.flatMap_cons,List.getElem?_append_right (by rw[hf,Nat.succ_mul];omega),hf,show (k+1)*sz+t-sz=k*sz+t by rw[Nat.succ_mul];omega]
  exact T.flat_at hf h ht
theorem T.rd_flat {α:Type}{f:α->List Value}{sz:Nat}(hf:∀a,(f a).length=sz)(_h0:0<sz){w:World}{B n c:Nat}{A:Option Addr}{l:List α}(h:Rd w B sz A n c (l.flatMap f))(hl:l.length=n){k:Nat}(hk:k<n) :
  ∃b o a,A=some ⟨b,o,none⟩/\b<B/\l[k]? = some a/\a∈l/\∀t u,(f a)[t]? = some u->w.cell? ⟨b,o+k*sz+t,none⟩=some u:=by
 obtain ⟨b,o,e,hb,hc⟩:=h.at_ (by omega)
 have hg:l[k]? = some l[k]:=List.getElem?_eq_getElem (by omega)
 refine ⟨b,o,l[k],e,hb,hg,List.getElem_mem _,fun t u hu=>?_⟩
 have ht:t<sz:=by rw[<-hf l[k]];exact (List.getElem?_eq_some_iff.1 hu).1
 rw[Nat.add_assoc]
 exact hc _ _ ((T.flat_at hf hg ht).trans hu)
theorem FV.cells_len (f:FV):f.cells.length=3:=rfl
structure RdF (w:World) (B:Nat) (A:Option Addr) (n c:Nat) (l:List FV):Prop where
 row:Rd w B 3 A n c (l.flatMap FV.cells)
 len:l.length=n
 fits:∀f∈l,f.path.size<=140737488351232/\f.text.size<=140737488351232
theorem RdF.get {w:World}{B n c:Nat}{A:Option Addr}{l:List FV}(h:RdF w B A n c l){k:Nat}(hk:k<n) :
  ∃b o f,A=some ⟨b,o,none⟩/\b<B/\l[k]? = some f/\f∈l/\w.cell? ⟨b,o+k*3,none⟩=some (.string f.path)/\w.cell? ⟨b,o+k*3+1,none⟩=some (.bool f.exec)/\w.cell? ⟨b,o+k*3+2,none⟩=some (.string f.text):=by
 obtain ⟨b,o,f,e,hb,hg,hm,hc⟩:=T.rd_flat FV.cells_len (by omega) h.row h.len hk
 exact ⟨b,o,f,e,hb,hg,hm,hc 0 _ rfl,hc 1 _ rfl,hc 2 _ rfl⟩
section
variable {w w':World} {B B' n c:Nat} {A:Option Addr} {l:List FV}
theorem RdF.to (h:RdF w B A n c l)(hb:Below B w w')(hB:B<=B'):RdF w' B' A n c l:=⟨h.row.to hb hB,h.len,h.fits⟩
theorem RdF.drew (h:RdF w B A n c l):RdF w.drew B A n c l:=⟨h.row.drew,h.len,h.fits⟩
theorem RdF.none_ (w:World)(B:Nat):RdF w B none 0 0 []:=⟨Rd.none_ _ _ _,rfl,by simp⟩
end
def pathsOf (l:List FV)(q:Bs):Bool:=l.any fun f=>decide (f.p=q)
theorem aLy {l:List FV}{q:Bs}:pathsOf l q=true↔∃f∈l,f.p=q:=by simp[pathsOf]
theorem aQx (l:List FV)(f:FV)(q:Bs):pathsOf (l++[f]) q=(pathsOf l q || decide (f.p=q)):=by simp[pathsOf]
def MapP (B N:Nat)(S:Bs->Bool)(w:World)(e:Ending) (w':World):Prop:=
 ∃(b nn:Nat) (D:DataW Value),e=.returned (.map (some b))/\B<=b/\b<w'.heap.size/\nn<=N/\SetP w' b nn D S/\Below B w w'
theorem bFd {A:Option Addr}{n c:Nat}{l:List FV}{w:World}(hn:n<=17592186044416)(h:RdF w w.heap.size A n c l) :
  Calls Tryz.prog 103 #[.slice A n c] w (MapP w.heap.size n (pathsOf l) w):=by
 have HL:=hid h.len
 have hmm:=@run_makeMap Tryz.prog
 have hS0:=SetP.start w
 have hb0:Below w.heap.size w (w.alloc (.map #[] 0)):=(Below.refl _ _).alloc (Nat.le_refl _) _
 have hz0:(w.alloc (.map #[] 0)).heap.size=w.heap.size+1:=by simp
 go_enter Tryz.func103,Tryz.ntmps103
 go_wp2
 go_loopw[9] (fun i wr=>∃(k:Nat) (D:DataW Value),k<=n/\i=.int .i64 k/\Below w.heap.size w wr/\w.heap.size<wr.heap.size/\SetP wr w.heap.size k D (pathsOf (l.take k))) (fun i _=>n-(intOf i).toNat)
 case atStart=>exact ⟨0,_,Nat.zero_le _,rfl,hb0,by omega,hS0⟩
 obtain ⟨k,D,hk,rfl,hb,hz,hS⟩:=hrel
 clear hS0
 by_cases hlt:k<n
 ·obtain ⟨b0,o0,f,rfl,hbb,hx,hm,h0,h1,h2⟩:=h.get hlt
  replace h0:=(hb.cell (p:=⟨b0,o0+k*3,none⟩) (by show b0<_;omega)).trans h0
  replace h1:=(hb.cell (p:=⟨b0,o0+k*3+1,none⟩) (by show b0<_;omega)).trans h1
  replace h2:=(hb.cell (p:=⟨b0,o0+k*3+2,none⟩) (by show b0<_;omega)).trans h2
  have HX:=hid hx;clear hx
  have hfit:=(h.fits f hm).1
  have hS1:=hS.kept (World.grownBy_alloc wr (.cells #[.string f.path,.bool f.exec,.string f.text] 48) none) (by simp)
  have hb1:=hb.alloc hb.size (.cells #[.string f.path,.bool f.exec,.string f.text] 48)
  have hrk:=bFm (wr.alloc (.cells #[.string f.path,.bool f.exec,.string f.text] 48)) f.path
  go_wp2_with (at_mapUpdate;refine wpList_mapUpdate_own _ rfl _ _ _ 153 rfl 172 4 KP Tryz.underlying153 (plainElem Tryz.prog 4) w.heap.size k D rfl hS1.own (by unfold maxLen;omega) _ _ _ rfl rfl (keyP (by unfold maxLen;omega)) _ [] (boolT true) ?_;intro w5 hown5 hg5)
  go_roundw
  case rel=>
   refine ⟨k+1,_,by omega,by go_num,hb1.grown hg5 (by simp;omega) (fun g hg=>by injection hg with hg;omega),Nat.lt_of_lt_of_le (by simp;omega) hg5.size,hS1.put (by unfold maxLen;omega) hown5 fun x=>?_⟩
   rw[List.take_add_one,HX.out]
   exact aQx _ _ _
  simp[intOf];omega
 have hkn:k=n:=by omega
 subst hkn
 go_wp2
 go_ret
 rw[List.take_of_length_le (by rw[HL.out];omega)] at hS
 exact ⟨_,k,D,rfl,Nat.le_refl _,hz,Nat.le_refl _,hS,hb⟩
end Go.Proofs.YtohblmepajhpaaaGreatDoor
namespace Go.Proofs.YtohblmepajhpaaaGreatDoor
structure DV where
 kind:Int
 line:ByteArray
deriving DecidableEq
def DV.cells (e:DV):List Value:=[.int .i64 e.kind,.string e.line]
theorem DV.cells_len (e:DV):e.cells.length=2:=rfl
def lcs:List ByteArray->List ByteArray->Nat
 | [],_=>0
 | _::_,[]=>0
 | x::a,y::b=>if x=y then lcs a b+1 else max (lcs a (y::b)) (lcs (x::a) b)
termination_by a b=>a.length+b.length
theorem bIi (a:List ByteArray):lcs a []=0:=by cases a<;>simp[lcs]
theorem aTo:∀(a b:List ByteArray),lcs a b<=a.length
 | [],_=>by simp[lcs]
 | _::_,[]=>by simp[lcs]
 | x::a,y::b=>by
  rw[lcs]
  have h1:=aTo a b
  have h2:=aTo a (y::b)
  have h3:=aTo (x::a) b
  simp only[List.length_cons] at *
  split<;>omega
termination_by a b=>a.length+b.length
def cel (a b:List ByteArray)(i k:Nat):Nat:=lcs (a.drop i) (b.drop k)
theorem aTg (a b:List ByteArray)(i k:Nat):cel a b i k<=a.length:=by
 have:=aTo (a.drop i) (b.drop k)
 rw[List.length_drop] at this
 unfold cel
 omega
theorem aWn (a b:List ByteArray)(k:Nat):cel a b a.length k=0:=by simp[cel,lcs]
theorem bDj (a b:List ByteArray)(i:Nat):cel a b i b.length=0:=by simp[cel,bIi]
theorem aXq {a b:List ByteArray}{i k:Nat}{x y:ByteArray}(hx:a[i]? = some x)(hy:b[k]? = some y) :
  cel a b i k=if x=y then cel a b (i+1) (k+1)+1 else max (cel a b (i+1) k) (cel a b i (k+1)):=by
 obtain ⟨hi,rfl⟩:=List.getElem?_eq_some_iff.1 hx
 obtain ⟨hk,rfl⟩:=List.getElem?_eq_some_iff.1 hy
 unfold cel
 rw[List.drop_eq_getElem_cons hi,List.drop_eq_getElem_cons hk,lcs]
def scrT:List ByteArray->List ByteArray->List DV
 | [],[]=>[]
 | x::a,[]=>⟨2,x⟩::scrT a []
 | [],y::b=>⟨3,y⟩::scrT [] b
 | x::a,y::b=>if x=y then ⟨1,x⟩::scrT a b else if lcs (x::a) b<=lcs a (y::b) then ⟨2,x⟩::scrT a (y::b) else ⟨3,y⟩::scrT (x::a) b
termination_by a b=>a.length+b.length
def pfx:List ByteArray->List ByteArray->Nat
 | x::a,y::b=>if x=y then pfx a b+1 else 0
 | _,_=>0
def evs (k:Int)(l:List ByteArray):List DV:=l.map fun x=>⟨k,x⟩
def rest (a b:List ByteArray):List DV:=if 400<a.length\/400<b.length then evs 2 a++evs 3 b else scrT a b
def script (a b:List ByteArray):List DV:=evs 1 (a.take (pfx a b))++rest (a.drop (pfx a b)) (b.drop (pfx a b))
def olds (l:List DV):List ByteArray:=l.flatMap fun e=>if e.kind=3 then [] else [e.line]
def news (l:List DV):List ByteArray:=l.flatMap fun e=>if e.kind=2 then [] else [e.line]
def kinds (l:List DV):Prop:=∀e∈l,e.kind=1\/e.kind=2\/e.kind=3
theorem aGi:∀a b:List ByteArray,(scrT a b).length<=a.length+b.length
 | [],[]=>by simp[scrT]
 | x::a,[]=>by rw[scrT];have:=aGi a [];simp at *;omega
 | [],y::b=>by rw[scrT];have:=aGi [] b;simp at *;omega
 | x::a,y::b=>by
  rw[scrT]
  have h1:=aGi a b
  have h2:=aGi a (y::b)
  have h3:=aGi (x::a) b
  simp only[List.length_cons] at *
  split
  ·simp only[List.length_cons];omega
  split<;>(simp only[List.length_cons];omega)
termination_by a b=>a.length+b.length
theorem aDh:∀a b:List ByteArray,olds (scrT a b)=a/\news (scrT a b)=b/\kinds (scrT a b)
 | [],[]=>by simp[scrT,olds,news,kinds]
 | x::a,[]=>by
  obtain ⟨h1,h2,h3⟩:=aDh a []
  rw[scrT]
  refine ⟨by simp only[olds,List.flatMap_cons] at *;rw[h1];simp,by simp only[news,List.flatMap_cons] at *;rw[h2];simp,?_⟩
  intro e he
  rcases List.mem_cons.1 he with rfl | he
  ·simp
  exact h3 e he
 | [],y::b=>by
  obtain ⟨h1,h2,h3⟩:=aDh [] b
  rw[scrT]
  refine ⟨by simp only[olds,List.flatMap_cons] at *;rw[h1];simp,by simp only[news,List.flatMap_cons] at *;rw[h2];simp,?_⟩
  intro e he
  rcases List.mem_cons.1 he with rfl | he
  ·simp
  exact h3 e he
 | x::a,y::b=>by
  rw[scrT]
  split
  ·rename_i hxy
   obtain ⟨h1,h2,h3⟩:=aDh a b
   refine ⟨by simp only[olds,List.flatMap_cons] at *;rw[h1];simp,by simp only[news,List.flatMap_cons] at *;rw[h2];simp[hxy],?_⟩
   intro e he
   rcases List.mem_cons.1 he with rfl | he
   ·simp
   exact h3 e he
  split
  ·obtain ⟨h1,h2,h3⟩:=aDh a (y::b)
   refine ⟨by simp only[olds,List.flatMap_cons] at *;rw[h1];simp,by simp only[news,List.flatMap_cons] at *;rw[h2];simp,?_⟩
   intro e he
   rcases List.mem_cons.1 he with rfl | he
   ·simp
   exact h3 e he
  obtain ⟨h1,h2,h3⟩:=aDh (x::a) b
  refine ⟨by simp only[olds,List.flatMap_cons] at *;rw[h1];simp,by simp only[news,List.flatMap_cons] at *;rw[h2];simp,?_⟩
  intro e he
  rcases List.mem_cons.1 he with rfl | he
  ·simp
  exact h3 e he
termination_by a b=>a.length+b.length
theorem aWz (l m:List DV):olds (l++m)=olds l++olds m:=by simp[olds]
theorem aXk (l m:List DV):news (l++m)=news l++news m:=by simp[news]
theorem aQe (a:List ByteArray):olds (evs 1 a)=a/\news (evs 1 a)=a/\olds (evs 2 a)=a/\news (evs 2 a)=[]/\olds (evs 3 a)=[]/\news (evs 3 a)=a:=by
 induction a with
 | nil=>simp[evs,olds,news]
 | cons x a ih=>
  simp only[evs,olds,news,List.map_cons,List.flatMap_cons] at *
  simp[ih]
theorem aLj (k:Int)(hk:k=1\/k=2\/k=3)(a:List ByteArray):kinds (evs k a):=by
 intro e he
 obtain ⟨x,_,rfl⟩:=List.mem_map.1 he
 exact hk
theorem aQp {l m:List DV}(h:kinds l) (h':kinds m):kinds (l++m):=by
 intro e he
 rcases List.mem_append.1 he with he | he
 ·exact h e he
 exact h' e he
theorem bEz (a b:List ByteArray):olds (rest a b)=a/\news (rest a b)=b/\kinds (rest a b):=by
 unfold rest
 split
 ·obtain ⟨_,_,h1,h2,_,_⟩:=aQe a
  obtain ⟨_,_,_,_,h3,h4⟩:=aQe b
  rw[aWz,aXk,h1,h2,h3,h4]
  exact ⟨by simp,by simp,aQp (aLj 2 (by simp) a) (aLj 3 (by simp) b)⟩
 exact aDh a b
theorem aEg:∀a b:List ByteArray,a.take (pfx a b)=b.take (pfx a b)
 | x::a,y::b=>by
  rw[pfx]
  split
  ·rename_i h
   subst h
   simp[aEg a b]
  simp
 | [],_=>by simp[pfx]
 | _::_,[]=>by simp[pfx]
theorem aMs (a b:List ByteArray):olds (script a b)=a/\news (script a b)=b/\kinds (script a b):=by
 obtain ⟨h1,h2,_⟩:=aQe (a.take (pfx a b))
 obtain ⟨h3,h4,h5⟩:=bEz (a.drop (pfx a b)) (b.drop (pfx a b))
 unfold script
 rw[aWz,aXk,h1,h2,h3,h4]
 exact ⟨List.take_append_drop _ _,by rw[aEg,List.take_append_drop],aQp (aLj 1 (by simp) _) h5⟩
theorem aYw (a b:List ByteArray):(script a b).length<=a.length+b.length:=by
 unfold script rest
 have h:=aGi (a.drop (pfx a b)) (b.drop (pfx a b))
 rw[List.length_drop,List.length_drop] at h
 have hp:=congrArg List.length (aEg a b)
 rw[List.length_take,List.length_take] at hp
 split
 ·simp only[evs,List.length_append,List.length_map,List.length_take,List.length_drop];omega
 simp only[evs,List.length_append,List.length_map,List.length_take];omega
section
variable {a b:List ByteArray} {i k:Nat} {x y:ByteArray}
theorem aGl (hx:a[i]? = some x):a.drop i=x::a.drop (i+1):=by
 obtain ⟨hi,rfl⟩:=List.getElem?_eq_some_iff.1 hx
 exact List.drop_eq_getElem_cons hi
theorem bGw (hx:a[i]? = some x)(hy:b[k]? = some y)(h:x=y):scrT (a.drop i) (b.drop k)=⟨1,x⟩::scrT (a.drop (i+1)) (b.drop (k+1)):=by
 rw[aGl hx,aGl hy,scrT,if_pos h]
theorem bHy (hx:a[i]? = some x)(hy:b[k]? = some y)(h:x≠y)(hc:cel a b i (k+1)<=cel a b (i+1) k):scrT (a.drop i) (b.drop k)=⟨2,x⟩::scrT (a.drop (i+1)) (b.drop k):=by
 unfold cel at hc
 rw[aGl hx,aGl hy] at *
 rw[scrT,if_neg h,if_pos hc]
theorem bIm (hx:a[i]? = some x)(hy:b[k]? = some y)(h:x≠y)(hc:¬cel a b i (k+1)<=cel a b (i+1) k):scrT (a.drop i) (b.drop k)=⟨3,y⟩::scrT (a.drop i) (b.drop (k+1)):=by
 unfold cel at hc
 rw[aGl hx,aGl hy] at *
 rw[scrT,if_neg h,if_neg hc]
end
def splitL:Bs->List Bs
 | []=>[]
 | x::s=>if x=10 then [x]::splitL s else
  match splitL s with
  | []=>[[x]]
  | l::ls=>(x::l)::ls
theorem aGr:∀s:Bs,(splitL s).flatten=s
 | []=>rfl
 | x::s=>by
  have ih:=aGr s
  rw[splitL]
  split
  ·rw[List.flatten_cons,ih];rfl
  split
  ·rename_i h;rw[h] at ih;rw[<-ih];rfl
  rename_i l ls h;rw[h,List.flatten_cons] at ih;rw[List.flatten_cons,<-ih];rfl
def ofB (l:Bs):ByteArray:=⟨l.toArray⟩
def linesF (s:ByteArray):List ByteArray:=(splitL s.data.toList).map ofB
def joinF (l:List ByteArray):ByteArray:=ofB (l.flatMap fun x=>x.data.toList)
theorem aZa (s:ByteArray):joinF (linesF s)=s:=by
 have h:(linesF s).flatMap (fun x=>x.data.toList)=s.data.toList:=by
  rw[linesF,List.flatMap_map]
  have:(splitL s.data.toList).flatMap (fun a=>(ofB a).data.toList)=(splitL s.data.toList).flatten:=by
   rw[List.flatMap_def];congr 1;exact List.map_id'' (fun a=>by simp[ofB]) _
  rw[this,aGr]
 rw[joinF,h]
 cases s;simp[ofB]
structure KV where
 kind:Int
 base:List ByteArray
 ours:List ByteArray
 theirs:List ByteArray
deriving DecidableEq
def placesF:List DV->Nat->List (Option Nat)
 | [],_=>[]
 | e::es,j=>if e.kind=1 then some j::placesF es (j+1) else if e.kind=2 then none::placesF es j else placesF es (j+1)
def placeF (base side:List ByteArray):List (Option Nat):=placesF (script base side) 0
def sliceF (l:List ByteArray)(i k:Nat):List ByteArray:=(l.take k).drop i
end Go.Proofs.YtohblmepajhpaaaGreatDoor
namespace Go.Proofs.YtohblmepajhpaaaGreatDoor
open Go.RowKit
theorem aWw:Elem Tryz.prog 135 9 1 16:=aBt (by kernel_rfl)
theorem bDz (w:World)(x:ByteArray):Rd (w.alloc (.cells #[.string x] 9)) (w.heap.size+1) 1 (some ⟨w.heap.size,0,none⟩) 1 1 ([x].map .string):=
 ⟨rfl,Nat.le_refl _,fun _=>⟨_,0,rfl,by omega,fun j u hu=>by
  rw[Nat.zero_add,World.cell?,heap_alloc_new]
  simpa using hu⟩⟩
def Cut (s:Bs)(ps:List Bs)(f i:Nat):Prop:=parts s=ps++parts (s.drop f)/\f<=i/\i<=s.length/\47∉(s.drop f).take (i-f)
theorem Cut.start (s:Bs):Cut s [] 0 0:=⟨rfl,Nat.le_refl _,Nat.zero_le _,by simp⟩
theorem Cut.slash {s:Bs}{ps:List Bs}{f i:Nat}(h:Cut s ps f i)(hi:s[i]? = some 47):Cut s (ps++[(s.drop f).take (i-f)]) (i+1) (i+1):=by
 obtain ⟨h1,h2,h3,h4⟩:=h
 have hlt:=(List.getElem?_eq_some_iff.1 hi).1
 refine ⟨?_,Nat.le_refl _,by omega,by simp⟩
 have e:s.drop f=(s.drop f).take (i-f)++47::s.drop (i+1):=by
  have h5:(s.drop f).drop (i-f)=47::s.drop (i+1):=by
   rw[List.drop_drop,show f+(i-f)=i by omega,List.drop_eq_getElem_cons hlt,(List.getElem?_eq_some_iff.1 hi).2]
  rw[<-h5,List.take_append_drop]
 rw[h1,List.append_assoc]
 congr 1
 conv=>lhs;rw[e]
 rw[aNd _ h4];rfl
theorem Cut.no {s:Bs}{ps:List Bs}{f i:Nat}{c:UInt8}(h:Cut s ps f i)(hi:s[i]? = some c)(hc:c≠47):Cut s ps f (i+1):=by
 obtain ⟨h1,h2,h3,h4⟩:=h
 have hlt:=(List.getElem?_eq_some_iff.1 hi).1
 refine ⟨h1,by omega,by omega,?_⟩
 rw[show i+1-f=(i-f)+1 by omega,List.take_add_one,List.getElem?_drop,show f+(i-f)=i by omega,hi]
 intro hm
 rcases List.mem_append.1 hm with hm | hm
 ·exact h4 hm
 simp at hm;exact hc hm.symm
theorem Cut.last {s:Bs}{ps:List Bs}{f:Nat}(h:Cut s ps f s.length):parts s=ps++[s.drop f]:=by
 obtain ⟨h1,h2,h3,h4⟩:=h
 rw[List.take_of_length_le (by rw[List.length_drop];omega)] at h4
 rw[h1,aIv h4]
theorem aQc (s:ByteArray)(f i:Nat):(s.extract f i).data.toList=(s.data.toList.drop f).take (i-f):=by
 simp[ByteArray.data_extract,List.take_drop]
 try (rw[List.drop_take])
 try (congr 1;omega)
def StrsIs (P:List Bs->Prop)(w:World)(e:Ending) (w':World):Prop:=
 ∃(A:Option Addr) (c:Nat) (ps:List ByteArray),e=.returned (.slice A ps.length c)/\P (ps.map (·.data.toList))/\Rd w' w'.heap.size 1 A ps.length c (ps.map .string)/\Below w.heap.size w w'
theorem bAf {s:ByteArray}{w:World}(hs:s.size<=1048576):Calls Tryz.prog 93 #[.string s] w (StrsIs (·=parts s.data.toList) w):=by
 have hl:s.data.toList.length=s.size:=rfl
 go_enter Tryz.func93,Tryz.ntmps93
 go_wp2
 go_loopw[3,4,5] (fun lv fv iv wr=>∃(f i:Nat) (ps:List ByteArray),i<=s.size/\f<=i/\fv=.int .i64 f/\iv=.int .i64 i/\Hid (Cut s.data.toList (ps.map (·.data.toList)) f i)/\ps.length<=i/\
   Below w.heap.size w wr/\wr.ownsRow w.heap.size 9 1 lv ps.length (ps.map .string)) (fun _ _ iv _=>s.size-(intOf iv).toNat)
 case atStart=>exact ⟨0,0,[],Nat.zero_le _,Nat.le_refl _,rfl,rfl,Cut.start _,Nat.le_refl _,Below.refl _ _,World.ownsRow_nil _ _ _ _⟩
 obtain ⟨f,i,ps,hi,hfi,rfl,rfl,hc,hpl,hb,ho⟩:=hrel
 by_cases hlt:i<s.size
 ·have hx:s.data.toList[i]? = some s[i]:=by
   have:=List.getElem?_eq_getElem (l:=s.data.toList) (i:=i) (by omega)
   rw[this];rfl
  by_cases h47:s[i]=47
  ·have h47i:((s[i].toNat:Int) == 47)=true:=by rw[h47];rfl
   rw[h47] at hx
   have HC:=hid (hc.out.slash hx)
   have hb1:=hb.alloc hb.size (.cells #[.string (s.extract f i)] 9)
   have ho1:=ho.alloc (.cells #[.string (s.extract f i)] 9)
   clear hx h47
   go_wp2_with (at_builtin;refine aAn rfl (.tmp 16) (.tmp 21) 135 rfl aWw rfl rfl ho1 (bDz wr (s.extract f i)) (aEx _) (by unfold maxLen;omega) (by omega) hb1.size ?_;intro v7 w7 ho7 hg7 hv7)
   go_roundw
   case rel=>
    refine ⟨i+1,i+1,ps++[s.extract f i],by omega,by omega,by go_num,by go_num,?_,by simp;omega,hb1.grown hg7 hb1.size (fun g hg=>(ho1.lt g hg).1),?_⟩
    ·rw[List.map_append,List.map_cons,List.map_nil,aQc];exact HC.out
    rw[List.length_append,List.map_append];exact ho7
   simp[intOf];omega
  have h47i:((s[i].toNat:Int) == 47)=false:=by
   refine beq_eq_false_iff_ne.2 fun e=>h47 (UInt8.toNat.inj ?_)
   show s[i].toNat=47
   omega
  have HC:=hid (hc.out.no hx h47)
  clear hx h47
  go_wp2
  go_roundw
  case rel=>exact ⟨f,i+1,ps,by omega,by omega,rfl,by go_num,HC.out,by omega,hb,ho⟩
  simp[intOf];omega
 obtain rfl:i=s.size:=by omega
 have hc':=hc.out
 rw[<-hl] at hc'
 have HC:=hid hc'.last
 have hb1:=hb.alloc hb.size (.cells #[.string (s.extract f s.size)] 9)
 have ho1:=ho.alloc (.cells #[.string (s.extract f s.size)] 9)
 clear hc'
 go_wp2_with (at_builtin;refine aAn rfl (.tmp 25) (.tmp 29) 135 rfl aWw rfl rfl ho1 (bDz wr (s.extract f s.size)) (aEx _) (by unfold maxLen;omega) (by omega) hb1.size ?_;intro v7 w7 ho7 hg7 hv7)
 have hb7:=hb1.grown hg7 hb1.size (fun g hg=>(ho1.lt g hg).1)
 obtain ⟨A7,c7,rfl,hc7⟩:=aAd ho7
 go_ret
 refine ⟨A7,c7,ps++[s.extract f s.size],by rw[List.length_append];rfl,?_,?_,hb7⟩
 ·rw[HC.out,List.map_append,List.map_cons,List.map_nil,aQc,List.take_of_length_le (by rw[List.length_drop];omega)]
 have:=Rd.of_own ho7 hc7
 rw[<-List.map_append,show ps.length+1=(ps++[s.extract f s.size]).length by simp] at this
 exact this
end Go.Proofs.YtohblmepajhpaaaGreatDoor
