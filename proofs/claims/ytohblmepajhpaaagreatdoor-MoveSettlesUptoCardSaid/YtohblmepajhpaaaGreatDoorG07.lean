/- Texts of the walks, together: Walks: marker.Right, the document's Markers. Contracts of the library at this seat, laid by the shelf, in plain words. Plain laws: what two lists have in common is the longest that both have; with the same end. Walks: diff.begin, diff.end: how many lines two lists begin, end with alike. The grid of what two lists' rests have in common: what it says, how it lies. Walk: diff.made: the grid of two lists. Walks: diff.edits; slices.Grow, slices.Concat of edits. Walk: slices.Concat of edits. -/
import Derived.Shelf.Strings.OnBuilder
import Derived.Shelf.Strings.BuilderK
import Derived.Shelf.Slices.Equal
import Derived.Shelf.Slices.Empties2
import Derived.Shelf.Slices.Clone
import Derived.Shelf.Small.Wraps
import Derived.Test.YtohblmepajhpaaaGreatDoorRows
import Derived.OwnWalk
import Derived.Test.YtohblmepajhpaaaGreatDoorG05
import Derived.Test.YtohblmepajhpaaaGreatDoorG06
set_option maxHeartbeats 8000000
set_option maxRecDepth 100000
open Go.Lib (hid)
namespace Go.Proofs.YtohblmepajhpaaaGreatDoor
open Go.RowKit
theorem aHh {n:Int}{ms:List MV}{m:MV}(hm:m∈ms)(h:okM n m=false):rightM n ms=false:=by
 unfold rightM;rw[List.all_eq_false];exact ⟨m,hm,by simp[h]⟩
theorem aVo {n:Int}{ms:List MV}{m:MV}{k:Nat}(hx:ms[k]? = some m)(hj:rightM n (ms.take k)=true)(h:okM n m=true):rightM n (ms.take (k+1))=true:=by
 rw[List.take_add_one,hx,Option.toList_some,aVb,hj,h];rfl
theorem bCf {A:Option Addr}{n c:Nat}{ms:List MV}{N:Int}{w:World}(hn:n<=maxLen)(h:RdM w w.heap.size A n c ms) :
  Calls Tryz.prog 76 #[.int .i64 N,.slice A n c] w (BoolBelow (rightM N ms) w):=by
 unfold maxLen at hn
 have HL:=hid h.len
 have hb0:Below w.heap.size w (w.alloc (.cells #[.int .i64 N] 3)):=(Below.refl _ _).alloc (Nat.le_refl _) _
 have hgN:(w.alloc (.cells #[.int .i64 N] 3)).cell? ⟨w.heap.size,0,none⟩=some (.int .i64 N):=(cell_of_row _ _ _ _ _ _ (heap_alloc_new _ _)).trans rfl
 have hlN:w.heap.size<(w.alloc (.cells #[.int .i64 N] 3)).heap.size:=by simp
 have h':=h.to hb0 hb0.size
 clear h
 generalize hW:w.alloc (.cells #[.int .i64 N] 3)=W at *
 have HW:=hid hW
 clear hW
 go_enter Tryz.func76,Tryz.ntmps76
 go_wp2
 rw[HW.out]
 go_loopw[9] (fun i wr=>∃k:Nat,k<=n/\i=.int .i64 k/\Below W.heap.size W wr/\Hid (rightM N (ms.take k)=true)) (fun i _=>n-(intOf i).toNat)
 case atStart=>exact ⟨0,Nat.zero_le _,rfl,Below.refl _ _,by rw[List.take_zero];rfl⟩
 obtain ⟨k,hk,rfl,hb,hj⟩:=hrel
 by_cases hlt:k<n
 ·obtain ⟨b0,o0,u,rfl,hbb,hx,hu,h0,h1⟩:=h'.get hlt
  replace h0:=(hb.cell hbb).trans h0
  replace h1:=(hb.cell hbb).trans h1
  have HX:=hid hx;clear hx
  have hN:=(hb.cell (p:=⟨w.heap.size,0,none⟩) hlN).trans hgN
  obtain ⟨hrd,hnl,_,_⟩:=h'.parts u hu
  have hbE:=hb.alloc hb.size (.cells #[.int .i64 u.old,.slice u.A u.new.length u.c] 43)
  have hNE:=(hbE.cell (p:=⟨w.heap.size,0,none⟩) hlN).trans hgN
  have hOE:(wr.alloc (.cells #[.int .i64 u.old,.slice u.A u.new.length u.c] 43)).cell? ⟨wr.heap.size,0,none⟩=some (.int .i64 u.old):=(cell_of_row _ _ _ _ _ _ (heap_alloc_new _ _)).trans rfl
  have hbw:=hb0.trans (hbE.mono hb0.size)
  by_cases c1:u.old<0
  ·go_wp2
   go_ret
   exact ⟨aAf (aHh hu (by rw[aMt];simp[c1])).symm,hbw⟩
  by_cases c2:N<=u.old
  ·go_wp2
   go_ret
   exact ⟨aAf (aHh hu (by rw[aMt];simp[c2])).symm,hbw⟩
  by_cases c3:2000<(u.new.length:Int)
  ·go_wp2
   go_ret
   exact ⟨aAf (aHh hu (by rw[aMt];simp[c3])).symm,hbw⟩
  have hcall:=aQi (o:=u.old) (n:=N) (g:=wr.heap.size) (k:=w.heap.size) (by unfold maxLen;omega) (hrd.to hbE hbE.size) hOE hNE (by simp) (Nat.lt_of_lt_of_le hlN hbE.size)
  cases c4:u.new.any (badI u.old N) with
  | true=>
   rw[c4] at hcall
   go_wp2_with (go_at_call 106;refine hcall.mono ?_;rintro e w' ⟨rfl,hb'⟩)
   go_ret
   exact ⟨aAf (aHh hu (by rw[aMt,c4];simp)).symm,hbw.trans (hb'.mono hbw.size)⟩
  | false=>
   rw[c4] at hcall
   go_wp2_with (go_at_call 106;refine hcall.mono ?_;rintro e w' ⟨rfl,hb'⟩)
   go_roundw
   case rel=>
    refine ⟨k+1,by omega,by go_num,hbE.trans (hb'.mono hbE.size),?_⟩
    exact aVo HX.out hj.out (by rw[aMt,c4];simp;omega)
   simp[intOf];omega
 have hkn:k=n:=by omega
 subst hkn
 go_wp2
 go_ret
 refine ⟨aAf ?_,hb0.trans (hb.mono hb0.size)⟩
 have:=hj.out
 rw[List.take_of_length_le (by rw[HL.out];omega)] at this
 exact this.symm
end Go.Proofs.YtohblmepajhpaaaGreatDoor
namespace Go.Proofs.YtohblmepajhpaaaGreatDoor
open Go.Shelf
def Tryz.lays169_ren:Go.Shelf.Ren:=⟨fun | 169=>187 | n=>n,fun | 70=>241 | 9=>9 | 0=>0 | 72=>243 | 37=>102 | 127=>288 | 3=>3 | 5=>5 | n=>n,fun | n=>n⟩
theorem Tryz.lays169:Go.Proofs.Lays.n169 Tryz.prog Tryz.lays169_ren:={
 mixed:=by kernel_rfl
 f169:=Tryz.func187.trans (congrArg some (by kernel_rfl))
 t0:=Tryz.underlying0
 a0:=Tryz.isAgg0
 z0:=Tryz.sizeOf0
 v0:=Tryz.zeroValue0
 t3:=Tryz.underlying3
 a3:=Tryz.isAgg3
 z3:=Tryz.sizeOf3
 v3:=Tryz.zeroValue3
 t9:=Tryz.underlying9
 a9:=Tryz.isAgg9
 z9:=Tryz.sizeOf9
 v9:=Tryz.zeroValue9
 t37:=Tryz.underlying102
 a37:=Tryz.isAgg102
 z37:=Tryz.sizeOf102
 v37:=Tryz.zeroValue102
 t70:=Tryz.underlying241
 a70:=Tryz.isAgg241
 z70:=Tryz.sizeOf241
 v70:=Tryz.zeroValue241
 t72:=Tryz.underlying243
 a72:=Tryz.isAgg243
 z72:=Tryz.sizeOf243
 v72:=Tryz.zeroValue243
 t127:=Tryz.underlying288
 a127:=Tryz.isAgg288
 z127:=Tryz.sizeOf288
 v127:=Tryz.zeroValue288 }
theorem Tryz.Builder_Extra_169:Builder.Extra Tryz.prog Tryz.lays169_ren:={
 sizeBuilder:=by kernel_rfl
 liesBuilder:=by kernel_rfl
 t5:=Tryz.underlying5
 a5:=Tryz.isAgg5
 z5:=Tryz.sizeOf5
 v5:=Tryz.zeroValue5
 infoByte:=by kernel_rfl
 cellsByte:=by kernel_rfl
 sizeByte:=by kernel_rfl
 neB5:=by decide }
def Tryz.lays156_ren:Go.Shelf.Ren:=⟨fun | 156=>222 | 165=>265 | 166=>223 | 169=>187 | 240=>266 | 241=>290 | 276=>291 | 277=>297 | n=>n,fun | 31=>135 | 9=>9 | 3=>3 | 4=>4 | 0=>0 | 20=>20 | 72=>243 | 76=>285 | 70=>241 | 37=>102 | 75=>284 | 127=>288 | 164=>329 | 5=>5 | 80=>247 | n=>n,fun | n=>n⟩
theorem Tryz.lays156:Go.Proofs.Lays.n156 Tryz.prog Tryz.lays156_ren:={
 mixed:=by kernel_rfl
 f156:=Tryz.func222.trans (congrArg some (by kernel_rfl))
 f165:=Tryz.func265.trans (congrArg some (by kernel_rfl))
 f166:=Tryz.func223.trans (congrArg some (by kernel_rfl))
 f169:=Tryz.func187.trans (congrArg some (by kernel_rfl))
 f240:=Tryz.func266.trans (congrArg some (by kernel_rfl))
 f241:=Tryz.func290.trans (congrArg some (by kernel_rfl))
 f276:=Tryz.func291.trans (congrArg some (by kernel_rfl))
 f277:=Tryz.func297.trans (congrArg some (by kernel_rfl))
 t0:=Tryz.underlying0
 a0:=Tryz.isAgg0
 z0:=Tryz.sizeOf0
 v0:=Tryz.zeroValue0
 t3:=Tryz.underlying3
 a3:=Tryz.isAgg3
 z3:=Tryz.sizeOf3
 v3:=Tryz.zeroValue3
 t4:=Tryz.underlying4
 a4:=Tryz.isAgg4
 z4:=Tryz.sizeOf4
 v4:=Tryz.zeroValue4
 t9:=Tryz.underlying9
 a9:=Tryz.isAgg9
 z9:=Tryz.sizeOf9
 v9:=Tryz.zeroValue9
 t20:=Tryz.underlying20
 a20:=Tryz.isAgg20
 z20:=Tryz.sizeOf20
 v20:=Tryz.zeroValue20
 t31:=Tryz.underlying135
 a31:=Tryz.isAgg135
 z31:=Tryz.sizeOf135
 v31:=Tryz.zeroValue135
 t37:=Tryz.underlying102
 a37:=Tryz.isAgg102
 z37:=Tryz.sizeOf102
 v37:=Tryz.zeroValue102
 t70:=Tryz.underlying241
 a70:=Tryz.isAgg241
 z70:=Tryz.sizeOf241
 v70:=Tryz.zeroValue241
 t72:=Tryz.underlying243
 a72:=Tryz.isAgg243
 z72:=Tryz.sizeOf243
 v72:=Tryz.zeroValue243
 t75:=Tryz.underlying284
 a75:=Tryz.isAgg284
 z75:=Tryz.sizeOf284
 v75:=Tryz.zeroValue284
 t76:=Tryz.underlying285
 a76:=Tryz.isAgg285
 z76:=Tryz.sizeOf285
 v76:=Tryz.zeroValue285
 t127:=Tryz.underlying288
 a127:=Tryz.isAgg288
 z127:=Tryz.sizeOf288
 v127:=Tryz.zeroValue288
 t164:=Tryz.underlying329
 a164:=Tryz.isAgg329
 z164:=Tryz.sizeOf329
 v164:=Tryz.zeroValue329 }
theorem Tryz.Builder_Extra_156:Builder.Extra Tryz.prog Tryz.lays156_ren:={
 sizeBuilder:=by kernel_rfl
 liesBuilder:=by kernel_rfl
 t5:=Tryz.underlying5
 a5:=Tryz.isAgg5
 z5:=Tryz.sizeOf5
 v5:=Tryz.zeroValue5
 infoByte:=by kernel_rfl
 cellsByte:=by kernel_rfl
 sizeByte:=by kernel_rfl
 neB5:=by decide }
open Go.RowKit in
theorem Tryz.strings_Join_none (a:Option Addr)(c:Nat)(sep:ByteArray)(w:World) :
  Calls Tryz.prog 222 #[.slice a 0 c,.string sep] w fun e w'=>e=.returned (.string ⟨#[]⟩)/\w'=w:=Any.strings_Join_none Tryz.lays156 Tryz.Builder_Extra_156 a c sep w
open Go.RowKit in
theorem Tryz.strings_Join (bk o c:Nat)(xs:List ByteArray)(sep:ByteArray)(w:World)(hcells:∀(j:Nat) x,xs[j]? = some x->w.cell? ⟨bk,o+j,none⟩=some (.string x))(hbk:bk<w.heap.size)(hN:xs.length<=140737488355328)(hcap:xs.length<=c)(hlen:(Lib.join (xs.map (·.data.toList)) sep.data.toList).length<=140737488355328) :
  Calls Tryz.prog 222 #[.slice (some ⟨bk,o,none⟩) xs.length c,.string sep] w fun e w'=>e=.returned (.string ⟨(Lib.join (xs.map (·.data.toList)) sep.data.toList).toArray⟩)/\Below w.heap.size w w':=Any.strings_Join Tryz.lays156 Tryz.Builder_Extra_156 bk o c xs sep w hcells hbk hN hcap hlen
def Tryz.lays122_ren:Go.Shelf.Ren:=⟨fun | 122=>175 | 215=>212 | n=>n,fun | 3=>3 | 4=>4 | n=>n,fun | n=>n⟩
theorem Tryz.lays122:Go.Proofs.Lays.n122 Tryz.prog Tryz.lays122_ren:={
 mixed:=by kernel_rfl
 f122:=Tryz.func175.trans (congrArg some (by kernel_rfl))
 f215:=Tryz.func212.trans (congrArg some (by kernel_rfl))
 t3:=Tryz.underlying3
 a3:=Tryz.isAgg3
 z3:=Tryz.sizeOf3
 v3:=Tryz.zeroValue3
 t4:=Tryz.underlying4
 a4:=Tryz.isAgg4
 z4:=Tryz.sizeOf4
 v4:=Tryz.zeroValue4 }
open Go.RowKit in
theorem Tryz.cmp_Compare_int (x y:Int)(w:World) :
  Calls Tryz.prog 175 #[.int .i64 x,.int .i64 y] w fun e w'=>e=.returned (.int .i64 (Lib.compareInt x y))/\w'=w:=Any.cmp_Compare_int Tryz.lays122 x y w
def Tryz.lays193_ren:Go.Shelf.Ren:=⟨fun | 193=>289 | n=>n,fun | 31=>135 | 9=>9 | 4=>4 | 3=>3 | 0=>0 | n=>n,fun | n=>n⟩
theorem Tryz.lays193:Go.Proofs.Lays.n193 Tryz.prog Tryz.lays193_ren:={
 mixed:=by kernel_rfl
 f193:=Tryz.func289.trans (congrArg some (by kernel_rfl))
 t0:=Tryz.underlying0
 a0:=Tryz.isAgg0
 z0:=Tryz.sizeOf0
 v0:=Tryz.zeroValue0
 t3:=Tryz.underlying3
 a3:=Tryz.isAgg3
 z3:=Tryz.sizeOf3
 v3:=Tryz.zeroValue3
 t4:=Tryz.underlying4
 a4:=Tryz.isAgg4
 z4:=Tryz.sizeOf4
 v4:=Tryz.zeroValue4
 t9:=Tryz.underlying9
 a9:=Tryz.isAgg9
 z9:=Tryz.sizeOf9
 v9:=Tryz.zeroValue9
 t31:=Tryz.underlying135
 a31:=Tryz.isAgg135
 z31:=Tryz.sizeOf135
 v31:=Tryz.zeroValue135 }
open Go.RowKit Go.Lib in
theorem Tryz.slices_Equal_string (b1 o1 n c b2 o2 m d:Nat)(xs ys:List ByteArray)(w:World)(hx:n<=xs.length)(hy:m<=ys.length)(hbig:n<=9223372036854775807)(hbig2:m<=9223372036854775807)(hc1:∀j,j<xs.length->w.cell? ⟨b1,o1+j,none⟩=some (.string (xs.getD j ByteArray.empty)))(hc2:∀j,j<ys.length->w.cell? ⟨b2,o2+j,none⟩=some (.string (ys.getD j ByteArray.empty))) :
  Calls Tryz.prog 289 #[.slice (some ⟨b1,o1,none⟩) n c,.slice (some ⟨b2,o2,none⟩) m d] w fun e w'=>e=.returned (.bool (decide (xs.take n=ys.take m)))/\∃q,w'=w.drewN q:=Any.slices_Equal_string Tryz.lays193 b1 o1 n c b2 o2 m d xs ys w hx hy hbig hbig2 hc1 hc2
open Go.RowKit Go.Lib in
theorem Tryz.slices_Equal_string_empty (a1 a2:Option Addr)(c m d:Nat)(w:World)(hbig2:m<=9223372036854775807) :
  Calls Tryz.prog 289 #[.slice a1 0 c,.slice a2 m d] w fun e w'=>e=.returned (.bool (decide (m=0)))/\w'=w:=Any.slices_Equal_string_empty Tryz.lays193 a1 a2 c m d w hbig2
def Tryz.laysNm215_ren:Go.Shelf.Ren:=⟨fun | 15=>206 | n=>n,fun | 22=>36 | 3=>3 | 4=>4 | n=>n,fun | n=>n⟩
theorem Tryz.laysNm215:Go.Proofs.Lays2.n15 Tryz.prog Tryz.laysNm215_ren:={
 mixed:=by kernel_rfl
 f15:=Tryz.func206.trans (congrArg some (by kernel_rfl))
 t3:=Tryz.underlying3
 a3:=Tryz.isAgg3
 z3:=Tryz.sizeOf3
 v3:=Tryz.zeroValue3
 t4:=Tryz.underlying4
 a4:=Tryz.isAgg4
 z4:=Tryz.sizeOf4
 v4:=Tryz.zeroValue4
 t22:=Tryz.underlying36
 a22:=Tryz.isAgg36
 z22:=Tryz.sizeOf36
 v22:=Tryz.zeroValue36
 i3:=by kernel_rfl }
open Go.RowKit Go.Lib in
theorem Tryz.slices_Clone_int (b off n c:Nat)(zs:List Int)(w:World)(hz:n<=zs.length)(hbig:n*8<=140737488355328)(hc:∀j,j<zs.length->w.cell? ⟨b,off+j,none⟩=some (.int .i64 (zs.getD j 0))) :
  Calls Tryz.prog 206 #[.slice (some ⟨b,off,none⟩) n c] w fun e w'=>∃v',e=.returned v'/\w'.ownsRow w.heap.size 3 1 v' n ((zs.take n).map (Value.int .i64))/\v'≠.slice none 0 0/\Below w.heap.size w w':=Any.slices_Clone_int Tryz.laysNm215 b off n c zs w hz hbig hc
open Go.RowKit Go.Lib in
theorem Tryz.slices_Clone_int_nil (n c:Nat)(w:World) :
  Calls Tryz.prog 206 #[.slice none n c] w fun e w'=>e=.returned (.slice none 0 0)/\w'=w:=Any.slices_Clone_int_nil Tryz.laysNm215 n c w
def Tryz.laysNm216_ren:Go.Shelf.Ren:=⟨fun | 16=>260 | n=>n,fun | 24=>135 | 9=>9 | 4=>4 | n=>n,fun | n=>n⟩
theorem Tryz.laysNm216:Go.Proofs.Lays2.n16 Tryz.prog Tryz.laysNm216_ren:={
 mixed:=by kernel_rfl
 f16:=Tryz.func260.trans (congrArg some (by kernel_rfl))
 t4:=Tryz.underlying4
 a4:=Tryz.isAgg4
 z4:=Tryz.sizeOf4
 v4:=Tryz.zeroValue4
 t9:=Tryz.underlying9
 a9:=Tryz.isAgg9
 z9:=Tryz.sizeOf9
 v9:=Tryz.zeroValue9
 t24:=Tryz.underlying135
 a24:=Tryz.isAgg135
 z24:=Tryz.sizeOf135
 v24:=Tryz.zeroValue135
 i9:=by kernel_rfl }
open Go.RowKit Go.Lib in
theorem Tryz.slices_Clone_string (b off n c:Nat)(zs:List ByteArray)(w:World)(hz:n<=zs.length)(hbig:n*16<=140737488355328)(hc:∀j,j<zs.length->w.cell? ⟨b,off+j,none⟩=some (.string (zs.getD j ByteArray.empty))) :
  Calls Tryz.prog 260 #[.slice (some ⟨b,off,none⟩) n c] w fun e w'=>∃v',e=.returned v'/\w'.ownsRow w.heap.size 9 1 v' n ((zs.take n).map (Value.string))/\v'≠.slice none 0 0/\Below w.heap.size w w':=Any.slices_Clone_string Tryz.laysNm216 b off n c zs w hz hbig hc
open Go.RowKit Go.Lib in
theorem Tryz.slices_Clone_string_nil (n c:Nat)(w:World) :
  Calls Tryz.prog 260 #[.slice none n c] w fun e w'=>e=.returned (.slice none 0 0)/\w'=w:=Any.slices_Clone_string_nil Tryz.laysNm216 n c w
open Go.RowKit Go.Lib in
theorem Tryz.slices_Clone_string_zero (a:Addr)(c:Nat)(w:World) :
  Calls Tryz.prog 260 #[.slice (some a) 0 c] w fun e w'=>∃v',e=.returned v'/\w'.ownsRow w.heap.size 9 1 v' 0 []/\v'≠.slice none 0 0/\Below w.heap.size w w':=Any.slices_Clone_string_zero Tryz.laysNm216 a c w
open Go.RowKit Go.Lib in
theorem Tryz.slices_Equal_string_lens (a1 a2:Option Addr)(n c m d:Nat)(w:World)(hnm:n≠m) :
  Calls Tryz.prog 289 #[.slice a1 n c,.slice a2 m d] w fun e w'=>e=.returned (.bool false)/\w'=w:=Any.slices_Equal_string_lens Tryz.lays193 a1 a2 n c m d w hnm
end Go.Proofs.YtohblmepajhpaaaGreatDoor
namespace Go.Proofs.YtohblmepajhpaaaGreatDoor
theorem aLu:∀(a b:List ByteArray),∃s:List ByteArray,s.Sublist a/\s.Sublist b/\s.length=lcs a b
 | [],b=>⟨[],List.nil_sublist _,List.nil_sublist _,by simp[lcs]⟩
 | x::a,[]=>⟨[],List.nil_sublist _,List.nil_sublist _,by simp[lcs]⟩
 | x::a,y::b=>by
  rw[lcs]
  split
  ·rename_i e
   subst e
   obtain ⟨s,h1,h2,h3⟩:=aLu a b
   exact ⟨x::s,h1.cons_cons x,h2.cons_cons x,by rw[List.length_cons,h3]⟩
  rcases Nat.le_total (lcs a (y::b)) (lcs (x::a) b) with h | h
  ·obtain ⟨s,h1,h2,h3⟩:=aLu (x::a) b
   exact ⟨s,h1,h2.cons y,by rw[h3,Nat.max_eq_right h]⟩
  obtain ⟨s,h1,h2,h3⟩:=aLu a (y::b)
  exact ⟨s,h1.cons x,h2,by rw[h3,Nat.max_eq_left h]⟩
termination_by a b=>a.length+b.length
theorem aQd {x z:ByteArray}{s a:List ByteArray}(h:(z::s).Sublist (x::a)):s.Sublist a/\(z≠x->(z::s).Sublist a):=by
 cases h with
 | cons _ h=>exact ⟨(List.sublist_cons_self z s).trans h,fun _=>h⟩
 | cons_cons _ h=>exact ⟨h,fun e=>absurd rfl e⟩
theorem aMf:∀(a b s:List ByteArray),s.Sublist a->s.Sublist b->s.length<=lcs a b
 | [],b,s,h1,_=>by rw[List.sublist_nil.1 h1];simp
 | x::a,[],s,_,h2=>by rw[List.sublist_nil.1 h2];simp
 | x::a,y::b,[],_,_=>by simp
 | x::a,y::b,z::s,h1,h2=>by
  obtain ⟨a1,a2⟩:=aQd h1
  obtain ⟨b1,b2⟩:=aQd h2
  rw[lcs]
  split
  ·have:=aMf a b s a1 b1
   rw[List.length_cons];omega
  rename_i e
  by_cases hz:z=x
  ·have hy:z≠y:=fun h=>e (hz▸h)
   have:=aMf (x::a) b (z::s) h1 (b2 hy)
   omega
  have:=aMf a (y::b) (z::s) (a2 hz) h2
  omega
termination_by a b=>a.length+b.length
theorem aXn {x:ByteArray}{s a:List ByteArray}(h:s.Sublist (a++[x])):s.dropLast.Sublist a:=by
 have h1:=h.reverse
 rw[List.reverse_append] at h1
 have h2:s.reverse.tail.Sublist a.reverse:=by
  cases hs:s.reverse with
  | nil=>exact List.nil_sublist _
  | cons z r=>
   rw[hs] at h1
   exact (aQd h1).1
 have h3:=h2.reverse
 rw[List.reverse_reverse] at h3
 rw[<-List.reverse_reverse s,List.dropLast_reverse]
 exact h3
theorem bGm (x:ByteArray)(a b:List ByteArray):lcs (a++[x]) (b++[x])=lcs a b+1:=by
 refine Nat.le_antisymm ?_ ?_
 ·obtain ⟨s,h1,h2,h3⟩:=aLu (a++[x]) (b++[x])
  have:=aMf a b s.dropLast (aXn h1) (aXn h2)
  rw[List.length_dropLast] at this
  omega
 obtain ⟨s,h1,h2,h3⟩:=aLu a b
 have:=aMf (a++[x]) (b++[x]) (s++[x]) (h1.append_right [x]) (h2.append_right [x])
 rw[List.length_append,List.length_singleton] at this
 omega
theorem bFc:∀(c a b:List ByteArray),lcs (a++c) (b++c)=lcs a b+c.length
 | [],a,b=>by simp
 | x::c,a,b=>by
  have:=bFc c (a++[x]) (b++[x])
  rw[bGm] at this
  rw[List.append_assoc,List.append_assoc] at this
  rw[List.length_cons]
  have e:∀l:List ByteArray,l++([x]++c)=l++x::c:=fun l=>rfl
  rw[e,e] at this
  omega
theorem aTi:∀(c a b:List ByteArray),lcs (c++a) (c++b)=lcs a b+c.length
 | [],a,b=>by simp
 | x::c,a,b=>by
  rw[List.cons_append,List.cons_append,lcs,if_pos rfl,aTi c a b,List.length_cons];omega
def sfx (a b:List ByteArray):Nat:=pfx a.reverse b.reverse
theorem bJi (a b:List ByteArray):sfx a b<=a.length/\sfx a b<=b.length:=by
 have:∀(a b:List ByteArray),pfx a b<=a.length/\pfx a b<=b.length:=by
  intro a
  induction a with
  | nil=>intro b;simp[pfx]
  | cons x a ih=>
   intro b
   cases b with
   | nil=>simp[pfx]
   | cons y b=>
    rw[pfx]
    have:=ih b
    split<;>simp only[List.length_cons]<;>omega
 have h:=this a.reverse b.reverse
 rw[List.length_reverse,List.length_reverse] at h
 exact h
theorem bFx (a b:List ByteArray):a.drop (a.length-sfx a b)=b.drop (b.length-sfx a b):=by
 have h:=aEg a.reverse b.reverse
 have h1:=congrArg List.reverse h
 rw[List.reverse_take,List.reverse_take,List.reverse_reverse,List.reverse_reverse,List.length_reverse,List.length_reverse] at h1
 exact h1
theorem bBp (a b:List ByteArray)(n m:Nat)(hn:a.take n=b.take n)(_hna:n<=a.length)(hnb:n<=b.length)
  (hm:(a.drop n).drop ((a.drop n).length-m)=(b.drop n).drop ((b.drop n).length-m)) (hma:m<=(a.drop n).length) (_hmb:m<=(b.drop n).length) :
  lcs a b=n+m+lcs ((a.drop n).take ((a.drop n).length-m)) ((b.drop n).take ((b.drop n).length-m)):=by
 have e1:lcs a b=lcs (a.drop n) (b.drop n)+n:=by
  have h:=aTi (a.take n) (a.drop n) (b.drop n)
  rw[List.take_append_drop,hn,List.take_append_drop,List.length_take,Nat.min_eq_left hnb] at h
  exact h
 generalize a.drop n=c at *
 generalize b.drop n=d at *
 have h:=bFc (c.drop (c.length-m)) (c.take (c.length-m)) (d.take (d.length-m))
 rw[List.take_append_drop,hm,List.take_append_drop,<-hm,List.length_drop] at h
 omega
end Go.Proofs.YtohblmepajhpaaaGreatDoor
namespace Go.Proofs.YtohblmepajhpaaaGreatDoor
open Go.RowKit
theorem aSs:∀{k:Nat} {a b:List ByteArray},k<=a.length->k<=b.length->(∀(i:Nat) (x y:ByteArray),i<k->a[i]? = some x->b[i]? = some y->x=y)->(k=a.length\/k=b.length\/∃x y:ByteArray,a[k]? = some x/\b[k]? = some y/\x≠y)->pfx a b=k
 | 0,[],b,_,_,_,_=>by simp[pfx]
 | 0,x::a,[],_,_,_,_=>by simp[pfx]
 | 0,x::a,y::b,_,_,_,h=>by
  have h':x≠y:=by
   rcases h with h | h | ⟨u,v,h1,h2,h3⟩
   ·simp at h
   ·simp at h
   simp at h1 h2;subst h1;subst h2;exact h3
  rw[pfx,if_neg h']
 | k+1,[],b,h,_,_,_=>by simp at h
 | k+1,x::a,[],_,h,_,_=>by simp at h
 | k+1,x::a,y::b,h1,h2,h3,h4=>by
  have e:x=y:=h3 0 x y (by omega) rfl rfl
  rw[pfx,if_pos e,aSs (k:=k) (by simpa using h1) (by simpa using h2) (fun i u v hi hu hv=>h3 (i+1) u v (by omega) (by simpa using hu) (by simpa using hv)) (by simpa using h4)]
theorem aSz {A B:Option Addr}{n ca m cb:Nat}{a b:List ByteArray}{w:World}(hn:n<=17592186044416)(_hm:m<=17592186044416)(ha:Rd w w.heap.size 1 A n ca (a.map .string))(hb:Rd w w.heap.size 1 B m cb (b.map .string)) :
  Calls Tryz.prog 279 #[.slice A n ca,.slice B m cb] w fun e w'=>e=.returned (.int .i64 (pfx a b))/\Below w.heap.size w w':=by
 have hla:a.length=n:=by have:=ha.len;rw[List.length_map] at this;omega
 have hlb:b.length=m:=by have:=hb.len;rw[List.length_map] at this;omega
 have HA:=hid hla
 have HB:=hid hlb
 clear hla hlb
 go_enter Tryz.func279,Tryz.ntmps279
 go_wp2
 go_loopw[5] (fun i wr=>∃k:Nat,k<=n/\k<=m/\i=.int .i64 k/\Below w.heap.size w wr/\Hid (∀(j:Nat) (x y:ByteArray),j<k->a[j]? = some x->b[j]? = some y->x=y)) (fun i _=>n-(intOf i).toNat)
 case atStart=>exact ⟨0,Nat.zero_le _,Nat.zero_le _,rfl,Below.refl _ _,hid (fun j _ _ hj=>absurd hj (Nat.not_lt_zero _))⟩
 obtain ⟨k,hk,hk2,rfl,hbw,hj⟩:=hrel
 have hbd:=hbw.drew
 by_cases h1:k<n
 ·by_cases h2:k<m
  ·obtain ⟨b0,o0,x,rfl,hbb,hx,h0⟩:=ha.str h1
   obtain ⟨b1,o1,y,rfl,hbb1,hy,h3⟩:=hb.str h2
   have HX:=hid hx
   have HY:=hid hy
   clear hx hy
   go_wp2
   refine aAh (fun w'=>Below w.heap.size w w') (qs 21) mixed (by kernel_rfl) hbd ?_
   intro Tp M Q hT hT' hM hQ
   have m0:M ⟨b0,o0+k,none⟩=some (.string x):=hM _ _ fun w' hw=>(hw.cell (p:=⟨b0,o0+k,none⟩) hbb).trans h0
   have m1:M ⟨b1,o1+k,none⟩=some (.string y):=hM _ _ fun w' hw=>(hw.cell (p:=⟨b1,o1+k,none⟩) hbb1).trans h3
   have k1:decide ((k:Int)<n)=true:=decide_eq_true (by omega)
   have k2:decide ((k:Int)<m)=true:=decide_eq_true (by omega)
   simp only[qcmp]
   by_cases hq:x=y
   ·have e1:(x.toList == y.toList)=true:=by rw[hq];exact beq_self_eq_true _
    have HN:=hid (show ∀(j:Nat) (u v:ByteArray),j<k+1->a[j]? = some u->b[j]? = some v->u=v from fun j u v hj' hu hv=>by
     by_cases e:j=k
     ·subst e;rw[HX.out] at hu;rw[HY.out] at hv;injection hu with hu;injection hv with hv;rw[<-hu,<-hv];exact hq
     exact hj.out j u v (by omega) hu hv)
    simp (maxSteps:=9^7) only[↓qpre,aAb,aAe,aAc,m0,m1,k1,k2]
    refine ⟨⟨by omega,by omega⟩,⟨by omega,by omega⟩,hQ _ _ ?_⟩
    clear hQ hT hT' hM m0 m1 k1 k2 e1
    go_wp2
    go_roundw
    case rel=>exact ⟨k+1,by omega,by omega,by go_num,hbd,HN.out⟩
    simp[intOf];omega
   have e1:=aBw hq
   have HN:=hid (show pfx a b=k from aSs (by have:=HA.out;omega) (by have:=HB.out;omega) hj.out (.inr (.inr ⟨x,y,HX.out,HY.out,hq⟩)))
   simp (maxSteps:=9^7) only[↓qpre,aAb,aAe,aAc,m0,m1,k1,k2]
   refine ⟨⟨by omega,by omega⟩,⟨by omega,by omega⟩,hQ _ _ ?_⟩
   clear hQ hT hT' hM m0 m1 k1 k2
   go_wp2
   go_ret
   exact ⟨by rw[HN.out];rfl,hbd⟩
  have HN:=hid (show pfx a b=k from aSs (by have:=HA.out;omega) (by have:=HB.out;omega) hj.out (.inr (.inl (by have:=HB.out;omega))))
  go_wp2
  refine aAh (fun w'=>Below w.heap.size w w') (qs 21) mixed (by kernel_rfl) hbd ?_
  intro Tp M Q hT hT' hM hQ
  have k1:decide ((k:Int)<n)=true:=decide_eq_true (by omega)
  have k2:decide ((k:Int)<m)=false:=decide_eq_false (by omega)
  simp only[qcmp]
  simp (maxSteps:=9^7) only[↓qpre,aAb,aAe,aAc,k1,k2]
  refine hQ _ _ ?_
  clear hQ hT hT' hM k1 k2
  go_wp2
  go_ret
  exact ⟨by rw[HN.out];rfl,hbd⟩
 have HN:=hid (show pfx a b=k from aSs (by have:=HA.out;omega) (by have:=HB.out;omega) hj.out (.inl (by have:=HA.out;omega)))
 go_wp2
 refine aAh (fun w'=>Below w.heap.size w w') (qs 21) mixed (by kernel_rfl) hbd ?_
 intro Tp M Q hT hT' hM hQ
 have k1:decide ((k:Int)<n)=false:=decide_eq_false (by omega)
 simp only[qcmp]
 simp (maxSteps:=9^7) only[↓qpre,aAb,aAe,aAc,k1]
 refine hQ _ _ ?_
 clear hQ hT hT' hM k1
 go_wp2
 go_ret
 exact ⟨by rw[HN.out];rfl,hbd⟩
theorem bCz {k:Nat}{a b:List ByteArray}(h1:k<=a.length)(h2:k<=b.length)(h3:∀(i:Nat)(x y:ByteArray),i<k->a[a.length-1-i]? = some x->b[b.length-1-i]? = some y->x=y)(h4:k=a.length\/k=b.length\/(k<a.length/\k<b.length/\∃x y:ByteArray,a[a.length-1-k]? = some x/\b[b.length-1-k]? = some y/\x≠y)):sfx a b=k:=by
 refine aSs (by simpa using h1) (by simpa using h2) (fun i x y hi hx hy=>h3 i x y hi ?_ ?_) ?_
 ·rw[List.getElem?_reverse (by omega)] at hx;exact hx
 ·rw[List.getElem?_reverse (by omega)] at hy;exact hy
 rcases h4 with h | h | ⟨g1,g2,x,y,hx,hy,hne⟩
 ·left;simpa using h
 ·right;left;simpa using h
 right;right
 exact ⟨x,y,by rw[List.getElem?_reverse g1];exact hx,by rw[List.getElem?_reverse g2];exact hy,hne⟩
theorem bId {A B:Option Addr}{n ca m cb:Nat}{a b:List ByteArray}{w:World}(hn:n<=17592186044416)(hm:m<=17592186044416)(ha:Rd w w.heap.size 1 A n ca (a.map .string))(hb:Rd w w.heap.size 1 B m cb (b.map .string)) :
  Calls Tryz.prog 280 #[.slice A n ca,.slice B m cb] w fun e w'=>e=.returned (.int .i64 (sfx a b))/\Below w.heap.size w w':=by
 have hla:a.length=n:=by have:=ha.len;rw[List.length_map] at this;omega
 have hlb:b.length=m:=by have:=hb.len;rw[List.length_map] at this;omega
 have HA:=hid hla
 have HB:=hid hlb
 clear hla hlb
 go_enter Tryz.func280,Tryz.ntmps280
 go_wp2
 go_loopw[5] (fun i wr=>∃k:Nat,k<=n/\k<=m/\i=.int .i64 k/\Below w.heap.size w wr/\Hid (∀(j:Nat) (x y:ByteArray),j<k->a[a.length-1-j]? = some x->b[b.length-1-j]? = some y->x=y)) (fun i _=>n-(intOf i).toNat)
 case atStart=>exact ⟨0,Nat.zero_le _,Nat.zero_le _,rfl,Below.refl _ _,hid (fun j _ _ hj=>absurd hj (Nat.not_lt_zero _))⟩
 obtain ⟨k,hk,hk2,rfl,hbw,hj⟩:=hrel
 have hbd:=hbw.drew
 by_cases h1:k<n
 ·by_cases h2:k<m
  ·obtain ⟨b0,o0,x,rfl,hbb,hx,h0⟩:=ha.str (k:=n-1-k) (by omega)
   obtain ⟨b1,o1,y,rfl,hbb1,hy,h3⟩:=hb.str (k:=m-1-k) (by omega)
   have HX:=hid (show a[a.length-1-k]? = some x by rw[HA.out];exact hx)
   have HY:=hid (show b[b.length-1-k]? = some y by rw[HB.out];exact hy)
   clear hx hy
   go_wp2
   refine aAh (fun w'=>Below w.heap.size w w') (qs 29) mixed (by kernel_rfl) hbd ?_
   intro Tp M Q hT hT' hM hQ
   have m0:M ⟨b0,o0+(n-1-k),none⟩=some (.string x):=hM _ _ fun w' hw=>(hw.cell (p:=⟨b0,o0+(n-1-k),none⟩) hbb).trans h0
   have m1:M ⟨b1,o1+(m-1-k),none⟩=some (.string y):=hM _ _ fun w' hw=>(hw.cell (p:=⟨b1,o1+(m-1-k),none⟩) hbb1).trans h3
   have k1:decide ((k:Int)<n)=true:=decide_eq_true (by omega)
   have k2:decide ((k:Int)<m)=true:=decide_eq_true (by omega)
   have i1:(n:Int)-1-k=((n-1-k:Nat):Int):=by omega
   have i2:(m:Int)-1-k=((m-1-k:Nat):Int):=by omega
   simp only[qcmp]
   by_cases hq:x=y
   ·have e1:(x.toList == y.toList)=true:=by rw[hq];exact beq_self_eq_true _
    have HN:=hid (show ∀(j:Nat) (u v:ByteArray),j<k+1->a[a.length-1-j]? = some u->b[b.length-1-j]? = some v->u=v from fun j u v hj' hu hv=>by
     by_cases e:j=k
     ·subst e;rw[HX.out] at hu;rw[HY.out] at hv;injection hu with hu;injection hv with hv;rw[<-hu,<-hv];exact hq
     exact hj.out j u v (by omega) hu hv)
    simp (maxSteps:=9^7) only[↓qpre,aAb,aAe,aAc,i1,i2,m0,m1,k1,k2]
    (repeat refine And.intro (by first|omega|(unfold inI64;omega)) ?_)
    refine hQ _ _ ?_
    clear hQ hT hT' hM m0 m1 k1 k2 e1
    go_wp2
    go_roundw
    case rel=>exact ⟨k+1,by omega,by omega,by go_num,hbd,HN.out⟩
    simp[intOf];omega
   have e1:=aBw hq
   have HN:=hid (show sfx a b=k from bCz (by have:=HA.out;omega) (by have:=HB.out;omega) hj.out (.inr (.inr ⟨by have:=HA.out;omega,by have:=HB.out;omega,x,y,HX.out,HY.out,hq⟩)))
   simp (maxSteps:=9^7) only[↓qpre,aAb,aAe,aAc,i1,i2,m0,m1,k1,k2]
   (repeat refine And.intro (by first|omega|(unfold inI64;omega)) ?_)
   refine hQ _ _ ?_
   clear hQ hT hT' hM m0 m1 k1 k2
   go_wp2
   go_ret
   exact ⟨by rw[HN.out];rfl,hbd⟩
  have HN:=hid (show sfx a b=k from bCz (by have:=HA.out;omega) (by have:=HB.out;omega) hj.out (.inr (.inl (by have:=HB.out;omega))))
  go_wp2
  refine aAh (fun w'=>Below w.heap.size w w') (qs 29) mixed (by kernel_rfl) hbd ?_
  intro Tp M Q hT hT' hM hQ
  have k1:decide ((k:Int)<n)=true:=decide_eq_true (by omega)
  have k2:decide ((k:Int)<m)=false:=decide_eq_false (by omega)
  simp only[qcmp]
  simp (maxSteps:=9^7) only[↓qpre,aAb,aAe,aAc,k1,k2]
  refine hQ _ _ ?_
  clear hQ hT hT' hM k1 k2
  go_wp2
  go_ret
  exact ⟨by rw[HN.out];rfl,hbd⟩
 have HN:=hid (show sfx a b=k from bCz (by have:=HA.out;omega) (by have:=HB.out;omega) hj.out (.inl (by have:=HA.out;omega)))
 go_wp2
 refine aAh (fun w'=>Below w.heap.size w w') (qs 29) mixed (by kernel_rfl) hbd ?_
 intro Tp M Q hT hT' hM hQ
 have k1:decide ((k:Int)<n)=false:=decide_eq_false (by omega)
 simp only[qcmp]
 simp (maxSteps:=9^7) only[↓qpre,aAb,aAe,aAc,k1]
 refine hQ _ _ ?_
 clear hQ hT hT' hM k1
 go_wp2
 go_ret
 exact ⟨by rw[HN.out];rfl,hbd⟩
theorem bGx {x:Int}(h:0<=x/\x<=2000000000):IntKind.i32.wrap x=x:=by
 simp[IntKind.wrap,IntKind.bits,IntKind.signed];omega
def gcel (a b:List ByteArray)(i j p q:Nat):Nat:=if i<p\/(i=p/\j<=q) then cel a b p q else 0
def gridL (a b:List ByteArray)(i j:Nat):List Value:=(List.range ((a.length+1)*(b.length+1))).map fun t=>Value.int .i32 ((gcel a b i j (t / (b.length+1)) (t % (b.length+1)):Nat):Int)
theorem aGt {n W i j:Nat}(hi:i<=n)(hj:j<W):i*W+j<(n+1)*W:=by
 have:=Nat.mul_le_mul_right W hi
 rw[Nat.add_mul]
 omega
theorem aXl {W i j:Nat}(hj:j<W):(i*W+j) / W=i/\(i*W+j) % W=j:=by
 have hW:0<W:=by omega
 exact ⟨by rw[Nat.add_comm,Nat.add_mul_div_right _ _ hW,Nat.div_eq_of_lt hj,Nat.zero_add],by rw[Nat.add_comm,Nat.add_mul_mod_self_right,Nat.mod_eq_of_lt hj]⟩
theorem aMg (a b:List ByteArray)(i j:Nat):(gridL a b i j).length=(a.length+1)*(b.length+1):=by simp[gridL]
theorem aFm {a b:List ByteArray}{i j p q:Nat}(hp:p<=a.length)(hq:q<=b.length)(h:i<p\/(i=p/\j<=q)):(gridL a b i j)[p*(b.length+1)+q]? = some (.int .i32 (cel a b p q:Nat)):=by
 obtain ⟨h1,h2⟩:=aXl (W:=b.length+1) (i:=p) (j:=q) (by omega)
 have hlt:=aGt (n:=a.length) (W:=b.length+1) (j:=q) hp (by omega)
 rw[gridL,List.getElem?_map,List.getElem?_range hlt,Option.map_some,h1,h2,gcel,if_pos h]
theorem aUh (a b:List ByteArray):gridL a b a.length 0=List.replicate ((a.length+1)*(b.length+1)) (.int .i32 0):=by
 refine List.ext_getElem (by simp[gridL]) fun t h1 h2=>?_
 simp only[gridL,List.getElem_map,List.getElem_range,List.getElem_replicate]
 rw[aMg] at h1
 have:gcel a b a.length 0 (t / (b.length+1)) (t % (b.length+1))=0:=by
  unfold gcel
  split
  ·rename_i h
   have h3:t / (b.length+1)<a.length+1:=Nat.div_lt_of_lt_mul (by rw[Nat.mul_comm];exact h1)
   rw[show t / (b.length+1)=a.length by omega]
   exact aWn a b _
  rfl
 rw[this];rfl
theorem bDd (a b:List ByteArray)(i:Nat):gridL a b (i+1) 0=gridL a b i b.length:=by
 refine List.ext_getElem (by simp[gridL]) fun t h1 h2=>?_
 simp only[gridL,List.getElem_map,List.getElem_range]
 congr 2
 have hlt:t % (b.length+1)<b.length+1:=Nat.mod_lt _ (by omega)
 unfold gcel
 by_cases h:i<t / (b.length+1)
 ·rw[if_pos (by omega),if_pos (by omega)]
 rw[if_neg (by omega)]
 split
 ·rename_i h'
  rw[show t % (b.length+1)=b.length by omega,bDj]
 rfl
theorem bDh (a b:List ByteArray){i j:Nat}(hj:j<=b.length):(gridL a b i (j+1)).set (i*(b.length+1)+j) (.int .i32 (cel a b i j:Nat))=gridL a b i j:=by
 refine List.ext_getElem (by simp[gridL]) fun t h1 h2=>?_
 rw[List.getElem_set]
 split
 ·rename_i h
  subst h
  obtain ⟨h1,h2⟩:=aXl (W:=b.length+1) (i:=i) (j:=j) (by omega)
  simp only[gridL,List.getElem_map,List.getElem_range,h1,h2,gcel]
  rw[if_pos (Or.inr ⟨trivial,Nat.le_refl _⟩)]
 rename_i h
 simp only[gridL,List.getElem_map,List.getElem_range]
 congr 2
 have e:=Nat.div_add_mod t (b.length+1)
 unfold gcel
 by_cases c:i<t / (b.length+1)\/(i=t / (b.length+1)/\j+1<=t % (b.length+1))
 ·rw[if_pos c,if_pos (by omega)]
 rw[if_neg c,if_neg]
 rintro (g | ⟨g1,g2⟩)
 ·omega
 refine h ?_
 have:j=t % (b.length+1):=by omega
 rw[this,g1,Nat.mul_comm];exact e
structure Gr (w:World) (B g bx W N:Nat) (xs:List Value):Prop where
 c0:w.cell? ⟨bx,0,none⟩=some (.slice (some ⟨g,0,none⟩) N N)
 c1:w.cell? ⟨bx,1,none⟩=some (.int .i64 W)
 own:w.ownsRow B 21 1 (.slice (some ⟨g,0,none⟩) N N) N xs
 ne:bx≠g
 lo:B<=bx
 hi:bx<w.heap.size
theorem aAg {B:Nat}{e:TypeId}{k:Nat}{v:Value}{n:Nat}{xs:List Value} {w w':World}(h:w.ownsRow B e k v n xs)(hb:Below w.heap.size w w'):w'.ownsRow B e k v n xs:=
 h.kept (row:=none) ⟨hb.os,hb.tape,hb.output,hb.size,fun j hj _=>hb.block j hj⟩ (by cases hv:v.ownBlock<;>simp)
section
variable {w w':World} {B g bx W N:Nat} {xs:List Value}
theorem Gr.drew (h:Gr w B g bx W N xs):Gr w.drew B g bx W N xs:=⟨h.c0,h.c1,h.own.drew,h.ne,h.lo,h.hi⟩
theorem Gr.cell (h:Gr w B g bx W N xs){k:Nat}{u:Value}(hu:xs[k]? = some u):w.cell? ⟨g,k,none⟩=some u:=by
 rw[h.own.cellAt k (by rw[<-h.own.1];exact (List.getElem?_eq_some_iff.1 hu).1),hu]
theorem Gr.frz (h:Gr w B g bx W N xs)(k:Nat):w.frozen? ⟨g,k,none⟩=false:=h.own.frozenAt k
theorem Gr.store (h:Gr w B g bx W N xs)(k:Nat)(u:Value):Gr (w.setCell ⟨g,k,none⟩ u) B g bx W N (xs.set k u):=by
 have h2:=h.own.stored k u
 have hne:∀o:Nat,(⟨g,k,none⟩:Addr)≠⟨bx,o,none⟩:=fun o e=>h.ne (by injection e with e1 _ _;exact e1.symm)
 exact ⟨by rw[World.cell?_setCell_other _ _ _ _ (hne 0)];exact h.c0,by rw[World.cell?_setCell_other _ _ _ _ (hne 1)];exact h.c1,h2.1,h.ne,h.lo,by simpa using h.hi⟩
theorem Gr.ge (h:Gr w B g bx W N xs):B<=g/\g<w.heap.size:=h.own.lt g rfl
end
theorem aMi {bx g W N i j o:Nat}{I J:Int}{v:Value}{w:World}(hI:I=(i:Int))(hJ:J=(j:Int))(ho:i*W+j=o)(hN:N<=17592186044416)(hoN:o<N)
  (c0:w.cell? ⟨bx,0,none⟩=some (.slice (some ⟨g,0,none⟩) N N)) (c1:w.cell? ⟨bx,1,none⟩=some (.int .i64 W)) (cv:w.cell? ⟨g,o,none⟩=some v) :
  Calls Tryz.prog 288 #[.pointer (some ⟨bx,0,none⟩),.int .i64 I,.int .i64 J] w fun e w'=>e=.returned v/\w'=w.drew:=by
 subst hI;subst hJ
 have e1:(i:Int)*(W:Int)=((i*W:Nat):Int):=(Int.natCast_mul ..).symm
 generalize i*W=s at *
 subst ho
 go_enter Tryz.func288,Tryz.ntmps288
 go_wp2
 refine aAh (fun w'=>w'=w.drew) (qs 15) mixed (by kernel_rfl) rfl ?_
 intro Tp M Q hT hT' hM hQ
 have m0:M ⟨bx,0,none⟩=some (.slice (some ⟨g,0,none⟩) N N):=hM _ _ fun w' hw=>by subst hw;exact c0
 have m1:M ⟨bx,1,none⟩=some (.int .i64 W):=hM _ _ fun w' hw=>by subst hw;exact c1
 have m2:M ⟨g,s+j,none⟩=some v:=hM _ _ fun w' hw=>by subst hw;exact cv
 have e2:(s:Int)+(j:Int)=((s+j:Nat):Int):=by omega
 simp only[qcmp]
 simp (maxSteps:=9^7) only[↓qpre,aAb,aAe,aAc,m0,m1,e1,e2,m2]
 (repeat refine And.intro (by first|omega|(unfold inI64;omega)) ?_)
 refine hQ _ _ ?_
 clear hQ hT hT' hM m0 m1 m2
 go_wp2
 go_ret
 exact ⟨rfl,rfl⟩
structure Elem1 (P:Program) (t e:TypeId) (bytes:Nat) (z:Value):Prop where
 und:P.underlying t=some (.slice e)
 row:∃i,P.info? e=some i/\i.zero=some z/\i.size=1/\i.bytes=bytes
 one:z.cells=#[z]
theorem aPa {P:Program}{w:World}{a:Act}{ops:Array Oper}{rest:List Oper}{o:Oper}{Q:Exit->Act->World->Prop}(hgd:o.guard=none)(l c:Operand)(t:TypeId)
  (ho:o.op=.makeSlice t l c) {e:TypeId} {bytes:Nat} {z:Value} (E:Elem1 P t e bytes z) (base n:Nat)
  {L C:Int} (hl:a.eval l=.int .i64 L) (hc:a.eval c=.int .i64 C) (hL:L=(n:Int)) (hC:C=(n:Int)) (hb:bytes*n<=281474976710656) (h63:n<=maxLen) (hbase:base<=w.heap.size)
  (hK:∀w',w'.ownsRow base e 1 (.slice (some ⟨w.heap.size,0,none⟩) n n) n (List.replicate n z)->w.grownBy w' none->wpList P ops Q rest (a.put o.dst (.slice (some ⟨w.heap.size,0,none⟩) n n)) w') :
  wpList P ops Q (o::rest) a w:=by
 obtain ⟨i,hi,hz,hs,hby⟩:=E.row
 refine wpList_make_full w hgd l c t ho base e i z 1 E.und hi hz hs .i64 .i64 L C n hl hc hL hC (by rw[hby];exact hb) h63 hbase fun w' h1 h2=>hK w' ?_ h2
 rw[E.one,Nat.mul_one,toList_madeCells_one] at h1
 exact h1
theorem bGc {P:Program}{t e:TypeId}{bytes:Nat}{z:Value}(E:Elem P t e 1 bytes)(hz:(P.info? e).bind (·.zero)=some z)(h1:z.cells=#[z]):Elem1 P t e bytes z:=by
 obtain ⟨i,z',hi,hz',hs,hb,_⟩:=E.row
 rw[hi] at hz
 simp only[Option.bind_some,hz'] at hz
 cases hz
 exact ⟨E.und,⟨i,hi,hz',hs,hb⟩,h1⟩
theorem bIc:Elem1 Tryz.prog 321 21 4 (.int .i32 0):=bGc (aBt (by kernel_rfl)) (by kernel_rfl) rfl
def MadeIs (a b:List ByteArray)(w:World)(e:Ending) (w':World):Prop:=
 ∃g bx,e=.returned (.pointer (some ⟨bx,0,none⟩))/\Gr w' w.heap.size g bx (b.length+1) ((a.length+1)*(b.length+1)) (gridL a b 0 0)/\Below w.heap.size w w'
theorem bFj {A B:Option Addr}{n ca m cb:Nat}{a b:List ByteArray}{w:World}(hn:n<=400)(hm:m<=400)(ha:Rd w w.heap.size 1 A n ca (a.map .string))(hb:Rd w w.heap.size 1 B m cb (b.map .string)) :
  Calls Tryz.prog 287 #[.slice A n ca,.slice B m cb] w (MadeIs a b w):=by
 have hla:a.length=n:=by have:=ha.len;rw[List.length_map] at this;omega
 have hlb:b.length=m:=by have:=hb.len;rw[List.length_map] at this;omega
 have HA:=hid hla
 have HB:=hid hlb
 clear hla hlb
 obtain ⟨W,hW⟩:∃W:Nat,m+1=W:=⟨_,rfl⟩
 have hWi:(m:Int)+1=(W:Int):=by omega
 obtain ⟨N,hN⟩:∃N:Nat,(n+1)*W=N:=⟨_,rfl⟩
 have hNle:N<=160801:=by rw[<-hN];exact Nat.mul_le_mul (show n+1<=401 by omega) (show W<=401 by omega)
 have hNi:((n:Int)+1)*(W:Int)=(N:Int):=by rw[<-hN];push_cast;rfl
 have HN:=hid hN
 go_enter Tryz.func287,Tryz.ntmps287
 go_wp2_with first
  | (at_make;refine aPa rfl (.tmp 14) (.tmp 14) 321 rfl bIc w.heap.size N rfl rfl rfl rfl (by omega) (by simp only[maxLen];omega) (Nat.le_refl _) ?_;intro w1 hown1 hgrow1)
 have hB1:Below w.heap.size w w1:=(Below.refl _ _).grown hgrow1 (Nat.le_refl _) (fun g hg=>by cases hg)
 have hlt1:=(hown1.lt _ rfl).2
 have hG:Gr (w1.alloc (.cells #[.slice (some ⟨w.heap.size,0,none⟩) N N,.int .i64 (W:Int)] 342)) w.heap.size w.heap.size w1.heap.size W N (gridL a b n 0):=by
  refine ⟨?_,?_,?_,by intro e;simp only at hlt1;omega,hgrow1.size,by simp⟩
  ·rw[World.cell?,heap_alloc_new];rfl
  ·rw[World.cell?,heap_alloc_new];rfl
  have e:gridL a b n 0=List.replicate N (.int .i32 0):=by rw[<-HA.out,aUh,HA.out,HB.out,hW,HN.out]
  rw[e]
  exact hown1.alloc _
 have HG:=hid hG
 have HB2:=hid (hB1.alloc (by exact hgrow1.size) (.cells #[.slice (some ⟨w.heap.size,0,none⟩) N N,.int .i64 (W:Int)] 342))
 clear hG hB1 hown1 hgrow1
 generalize w1.alloc (.cells #[.slice (some ⟨w.heap.size,0,none⟩) N N,.int .i64 (W:Int)] 342)=w2 at *
 generalize w1.heap.size=bx at *
 go_loopw[6] (fun i wr=>∃j:Nat,j<=n/\i=.int .i64 ((j:Int)-1)/\Hid (Below w.heap.size w wr)/\Hid (Gr wr w.heap.size w.heap.size bx W N (gridL a b j 0)))
   (fun i _=>(intOf i+1).toNat)
 case atStart=>exact ⟨n,Nat.le_refl _,rfl,HB2,HG⟩
 clear HB2 HG
 obtain ⟨j,hj,rfl,HW,HT⟩:=hrel
 cases j with
 | zero=>
  go_wp2
  go_ret
  exact ⟨w.heap.size,bx,rfl,by rw[HA.out,HB.out,hW,HN.out];exact HT.out,HW.out⟩
 | succ j=>
  rw[show ((j+1:Nat):Int)-1=(j:Int) from by omega]
  obtain ⟨ba,oa,x,rfl,hba,hax,hacell⟩:=ha.str (k:=j) (by omega)
  have HX:=hid hax
  clear hax
  go_wp2
  go_loopw[7] (fun k wr=>∃q:Nat,q<=m/\k=.int .i64 ((q:Int)-1)/\Hid (Below w.heap.size w wr)/\Hid (Gr wr w.heap.size w.heap.size bx W N (gridL a b j q)))
    (fun k _=>(intOf k+1).toNat)
  case atStart=>exact ⟨m,Nat.le_refl _,rfl,HW,by have:=HT.out;rw[bDd,HB.out] at this;exact this⟩
  clear HW HT
  obtain ⟨q,hq,rfl,HW,HT⟩:=hrel
  cases q with
  | zero=>
   go_wp2
   go_roundw
   case rel=>exact ⟨j,by omega,by go_num,HW,HT⟩
   simp[intOf]
  | succ q=>
   rw[show ((q+1:Nat):Int)-1=(q:Int) from by omega]
   obtain ⟨bb,ob,y,rfl,hbb,hby,hbcell⟩:=hb.str (k:=q) (by omega)
   have HY:=hid hby;clear hby
   go_wp2
   refine aAh (fun w'=>Below w.heap.size w w') (qs 9) mixed (by kernel_rfl) HW.out.drew ?_
   intro T M Q hT hT' hM hQ
   have m0:M ⟨ba,oa+j,none⟩=some (.string x):=hM _ _ fun w' hw=>(hw.cell (p:=⟨ba,oa+j,none⟩) hba).trans hacell
   have m1:M ⟨bb,ob+q,none⟩=some (.string y):=hM _ _ fun w' hw=>(hw.cell (p:=⟨bb,ob+q,none⟩) hbb).trans hbcell
   clear hM
   have HW2:=hid HW.out.drew
   have HT2:=hid HT.out.drew
   clear HW HT
   have hstep:=aXq HX.out HY.out
   have HS:Hid (cel a b j q<=401):=by have:=aTg a b j q;have:=HA.out;unfold Hid;omega
   have hlt:j*W+q<N:=by rw[<-hN];exact aGt (n:=n) (by omega) (by omega)
   have hlt1:(j+1)*W+q<N:=by rw[<-hN];exact aGt (n:=n) (by omega) (by omega)
   have hlt2:(j+1)*W+(q+1)<N:=by rw[<-hN];exact aGt (n:=n) (by omega) (by omega)
   have hlt3:j*W+(q+1)<N:=by rw[<-hN];exact aGt (n:=n) (by omega) (by omega)
   have hset:=bDh a b (i:=j) (j:=q) (by have:=HB.out;omega)
   have gD:(gridL a b j (q+1))[(j+1)*W+(q+1)]? = some (.int .i32 (cel a b (j+1) (q+1):Nat)):=by
    have:=aFm (a:=a) (b:=b) (i:=j) (j:=q+1) (p:=j+1) (q:=q+1) (by have:=HA.out;omega) (by have:=HB.out;omega) (.inl (by omega))
    rw[HB.out,hW] at this;exact this
   have gL:(gridL a b j (q+1))[(j+1)*W+q]? = some (.int .i32 (cel a b (j+1) q:Nat)):=by
    have:=aFm (a:=a) (b:=b) (i:=j) (j:=q+1) (p:=j+1) (q:=q) (by have:=HA.out;omega) (by have:=HB.out;omega) (.inl (by omega))
    rw[HB.out,hW] at this;exact this
   have gR:(gridL a b j (q+1))[j*W+(q+1)]? = some (.int .i32 (cel a b j (q+1):Nat)):=by
    have:=aFm (a:=a) (b:=b) (i:=j) (j:=q+1) (p:=j) (q:=q+1) (by have:=HA.out;omega) (by have:=HB.out;omega) (.inr ⟨rfl,by omega⟩)
    rw[HB.out,hW] at this;exact this
   rw[HB.out,hW] at hset
   have HSET:=hid hset
   have HD:=hid (And.intro gD (And.intro gL gR))
   clear hset gD gL gR
   simp only[qcmp]
   by_cases hxy:x=y
   ·have e1:(x.toList == y.toList)=true:=by rw[hxy];exact beq_self_eq_true _
    rw[if_pos hxy] at hstep
    simp (maxSteps:=9^7) only[↓qpre,aAb,aAe,aAc,m0,m1]
    (repeat refine And.intro (by first|omega|(unfold inI64;omega)) ?_)
    refine hQ _ _ ?_
    clear hQ hT hT' m0 m1 e1
    go_wp2
    refine aAh (fun w'=>w'.cell? ⟨bx,0,none⟩=some (.slice (some ⟨w.heap.size,0,none⟩) N N)/\w'.cell? ⟨bx,1,none⟩=some (.int .i64 W)) (qe [17,20] 21) mixed (by kernel_rfl) ⟨HT2.out.c0,HT2.out.c1⟩ ?_
    intro T M Q hT hT' hM hQ
    have m0:M ⟨bx,0,none⟩=some (.slice (some ⟨w.heap.size,0,none⟩) N N):=hM _ _ fun w' hw=>hw.1
    have m1:M ⟨bx,1,none⟩=some (.int .i64 W):=hM _ _ fun w' hw=>hw.2
    have i1:(j:Int)*(W:Int)=((j*W:Nat):Int):=(Int.natCast_mul ..).symm
    have i2:((j*W:Nat):Int)+(q:Int)=((j*W+q:Nat):Int):=by push_cast;rfl
    simp only[qcmp,Nat.reduceBEq]
    simp (maxSteps:=9^7) only[↓qpre,aAb,aAe,aAc,m0,m1,i1,i2]
    (repeat refine And.intro (by first|omega|(unfold inI64;omega)) ?_)
    have HT3:=hid HT2.out.drew
    have HW3:=hid HW2.out.drew
    refine aAi (by kernel_rfl) (aMi (i:=j+1) (j:=q+1) (W:=W) (N:=N) (g:=w.heap.size) (by push_cast;rfl) (by push_cast;rfl) rfl (by omega) hlt2 HT3.out.c0 HT3.out.c1 (HT3.out.cell HD.out.1)) rfl rfl ?_
    rintro e w5 ⟨rfl,rfl⟩
    have HT4:=hid HT3.out.drew
    have HW4:=hid HW3.out.drew
    refine ⟨_,rfl,hT _ ⟨HT4.out.c0,HT4.out.c1⟩,?_⟩
    have i3:IntKind.i32.wrap ((cel a b (j+1) (q+1):Nat)+1:Int)=((cel a b j q:Nat):Int):=by rw[hstep];push_cast;exact bGx (by have:=HS.out;omega)
    simp (maxSteps:=9^7) only[↓qpre,aAb,aAe,aAc,i3]
    (repeat refine And.intro (by first|omega|(unfold inI64;omega)) ?_)
    have hcur:∃u,(gridL a b j (q+1))[j*W+q]? = some u:=⟨_,List.getElem?_eq_getElem (by rw[aMg,HA.out,HB.out,hW,hN];exact hlt)⟩
    obtain ⟨u,hu⟩:=hcur
    have hst:=HT4.out.store (j*W+q) (.int .i32 (cel a b j q:Nat))
    rw[HSET.out] at hst
    have hcs:=congrArg Option.isSome (HT4.out.cell hu)
    have HW5:=hid (HW4.out.setCell (p:=⟨w.heap.size,j*W+q,none⟩) (Nat.le_refl _) (.int .i32 (cel a b j q:Nat)))
    have HST:=hid hst
    refine aBi (v:=.int .i32 (cel a b j q:Nat)) (b:=w.heap.size) (o:=j*W+q) (by kernel_rfl) rfl rfl hcs (HT4.out.frz _) rfl ⟨hT _ ⟨hst.c0,hst.c1⟩,?_⟩
    simp (maxSteps:=9^7) only[aAb]
    refine hQ _ _ ?_
    clear hQ hT hT' hM m0 m1 i1 i2 i3 hst hcs hu HD HSET HS hstep HT4 HW4 HT3 HW3 HT2 HW2 HX HY
    go_wp2
    go_roundw
    case rel=>exact ⟨q,by omega,by go_num,HW5,HST⟩
    simp[intOf]
   have e1:=aBw hxy
   rw[if_neg hxy] at hstep
   simp (maxSteps:=9^7) only[↓qpre,aAb,aAe,aAc,m0,m1]
   (repeat refine And.intro (by first|omega|(unfold inI64;omega)) ?_)
   refine hQ _ _ ?_
   clear hQ hT hT' m0 m1 e1
   go_wp2
   refine aAh (fun w'=>w'.cell? ⟨bx,0,none⟩=some (.slice (some ⟨w.heap.size,0,none⟩) N N)/\w'.cell? ⟨bx,1,none⟩=some (.int .i64 W)) [(true,0),(true,1),(true,2),(true,3),(true,4),(true,5),(true,6),(true,7),(true,8),(true,9),(true,10),(true,11),(true,12),(true,13),(true,14),(true,15),(true,17),(true,18),(true,19),(true,20),(false,16),(false,21),(true,22),(true,23),(false,24)] mixed (by kernel_rfl) ⟨HT2.out.c0,HT2.out.c1⟩ ?_
   intro T M Q hT hT' hM hQ
   have m0:M ⟨bx,0,none⟩=some (.slice (some ⟨w.heap.size,0,none⟩) N N):=hM _ _ fun w' hw=>hw.1
   have m1:M ⟨bx,1,none⟩=some (.int .i64 W):=hM _ _ fun w' hw=>hw.2
   have i1:(j:Int)*(W:Int)=((j*W:Nat):Int):=(Int.natCast_mul ..).symm
   have i2:((j*W:Nat):Int)+(q:Int)=((j*W+q:Nat):Int):=by push_cast;rfl
   simp only[qcmp]
   simp (maxSteps:=9^7) only[↓qpre,aAb,aAe,aAc,m0,m1,i1,i2]
   (repeat refine And.intro (by first|omega|(unfold inI64;omega)) ?_)
   have HT3:=hid HT2.out.drew
   have HW3:=hid HW2.out.drew
   refine aAi (by kernel_rfl) (aMi (i:=j+1) (j:=q) (W:=W) (N:=N) (g:=w.heap.size) (by push_cast;rfl) rfl rfl (by omega) hlt1 HT3.out.c0 HT3.out.c1 (HT3.out.cell HD.out.2.1)) rfl rfl ?_
   rintro e w5 ⟨rfl,rfl⟩
   have HT3':=hid HT3.out.drew
   have HW3':=hid HW3.out.drew
   refine ⟨_,rfl,hT _ ⟨HT3'.out.c0,HT3'.out.c1⟩,?_⟩
   simp (maxSteps:=9^7) only[aAb,aAc]
   refine aAi (by kernel_rfl) (aMi (i:=j) (j:=q+1) (W:=W) (N:=N) (g:=w.heap.size) rfl (by push_cast;rfl) rfl (by omega) hlt3 HT3'.out.c0 HT3'.out.c1 (HT3'.out.cell HD.out.2.2)) rfl rfl ?_
   rintro e w5 ⟨rfl,rfl⟩
   have HT4:=hid HT3'.out.drew
   have HW4:=hid HW3'.out.drew
   refine ⟨_,rfl,hT _ ⟨HT4.out.c0,HT4.out.c1⟩,?_⟩
   have i3:max ((cel a b (j+1) q:Nat):Int) ((cel a b j (q+1):Nat):Int)=((cel a b j q:Nat):Int):=by rw[hstep];omega
   simp (maxSteps:=9^7) only[↓qpre,aAb,aAe,aAc,i3]
   (repeat refine And.intro (by first|omega|(unfold inI64;omega)) ?_)
   have hcur:∃u,(gridL a b j (q+1))[j*W+q]? = some u:=⟨_,List.getElem?_eq_getElem (by rw[aMg,HA.out,HB.out,hW,hN];exact hlt)⟩
   obtain ⟨u,hu⟩:=hcur
   have hst:=HT4.out.store (j*W+q) (.int .i32 (cel a b j q:Nat))
   rw[HSET.out] at hst
   have hcs:=congrArg Option.isSome (HT4.out.cell hu)
   have HW5:=hid (HW4.out.setCell (p:=⟨w.heap.size,j*W+q,none⟩) (Nat.le_refl _) (.int .i32 (cel a b j q:Nat)))
   have HST:=hid hst
   refine aBi (v:=.int .i32 (cel a b j q:Nat)) (b:=w.heap.size) (o:=j*W+q) (by kernel_rfl) rfl rfl hcs (HT4.out.frz _) rfl ⟨hT _ ⟨hst.c0,hst.c1⟩,?_⟩
   simp (maxSteps:=9^7) only[aAb]
   refine hQ _ _ ?_
   clear hQ hT hT' hM m0 m1 i1 i2 i3 hst hcs hu HD HSET HS hstep HT4 HW4 HT3 HW3 HT2 HW2 HX HY
   go_wp2
   go_roundw
   case rel=>exact ⟨q,by omega,by go_num,HW5,HST⟩
   simp[intOf]
theorem aHe:Elem Tryz.prog 190 193 2 24:=aBt (by kernel_rfl)
theorem aFd (l:List DV):∀u∈l.flatMap DV.cells,u.oneCell'=true:=by
 intro u hu
 obtain ⟨f,_,hf⟩:=List.mem_flatMap.1 hu
 simp only[DV.cells,List.mem_cons,List.mem_nil_iff,or_false] at hf
 rcases hf with rfl | rfl<;>rfl
theorem aPr (w:World)(f:DV):Rd (w.alloc (.cells #[.int .i64 f.kind,.string f.line] 193)) (w.alloc (.cells #[.int .i64 f.kind,.string f.line] 193)).heap.size 2 (some ⟨w.heap.size,0,none⟩) 1 1 ([f].flatMap DV.cells):=
 ⟨rfl,Nat.le_refl _,fun _=>⟨_,0,rfl,by simp,fun j u hu=>by
  rw[Nat.zero_add,World.cell?,heap_alloc_new]
  simpa[DV.cells] using hu⟩⟩
theorem bGy {k:Int}{a:List ByteArray}{j:Nat}{x:ByteArray}(hx:a[j]? = some x):evs k (a.take (j+1))=evs k (a.take j)++[⟨k,x⟩]:=by
 rw[List.take_add_one,hx];simp[evs]
theorem aBq (k:Int)(a:List ByteArray):(evs k a).length=a.length:=by simp[evs]
def EdIs (L:List DV)(w:World)(e:Ending) (w':World):Prop:=CloneIs 193 2 L.length (L.flatMap DV.cells) w e w'
theorem aDk {A:Option Addr}{n c:Nat}{a:List ByteArray}{k:Int}{w:World}(hn:n<=1000000)(ha:Rd w w.heap.size 1 A n c (a.map .string)) :
  Calls Tryz.prog 285 #[.int .i64 k,.slice A n c] w (EdIs (evs k a) w):=by
 have hla:a.length=n:=by have:=ha.len;rw[List.length_map] at this;omega
 have HA:=hid hla
 clear hla
 go_enter Tryz.func285,Tryz.ntmps285
 go_wp2
 go_loopw[5,10] (fun out i wr=>∃j:Nat,j<=n/\i=.int .i64 j/\Hid (Below w.heap.size w wr)/\Hid (wr.ownsRow w.heap.size 193 2 out j ((evs k (a.take j)).flatMap DV.cells))) (fun _ i _=>n-(intOf i).toNat)
 case atStart=>exact ⟨0,Nat.zero_le _,rfl,hid (Below.refl _ _),by rw[List.take_zero];exact World.ownsRow_nil _ _ _ _⟩
 obtain ⟨j,hj,rfl,HW,HO⟩:=hrel
 have hws:=HW.out.size
 by_cases hlt:j<n
 ·obtain ⟨b0,o0,x,rfl,hbb,hx,h0⟩:=ha.str hlt
  have c0:=(HW.out.cell (p:=⟨b0,o0+j,none⟩) hbb).trans h0
  have HX:=hid hx;clear hx
  have hb1:Below w.heap.size w (wr.alloc (.cells #[.int .i64 k,.string x] 193)):=HW.out.alloc hws _
  have ho1:=HO.out.alloc (.cells #[.int .i64 k,.string x] 193)
  have HB1:=hid hb1
  have HO1:=hid ho1
  clear hb1 ho1 HO
  go_wp2_with (at_builtin;refine aAn rfl (.tmp 14) (.tmp 18) 190 rfl aHe rfl rfl HO1.out (aPr _ ⟨k,x⟩) (aFd _) (by unfold maxLen;omega) (by omega) HB1.out.size ?_;intro v7 w7 ho7 hg7 hv7)
  have HW7:=hid (HB1.out.grown hg7 HB1.out.size (fun g hg=>(HO1.out.lt g hg).1))
  have HO7:=hid ho7
  clear ho7 hg7 hv7 HO1 HB1
  go_roundw
  case rel=>
   refine ⟨j+1,by omega,by go_num,HW7,?_⟩
   rw[bGy HX.out,List.flatMap_append]
   exact HO7
  simp[intOf];omega
 have hjn:j=n:=by omega
 subst hjn
 rw[List.take_of_length_le (by rw[HA.out];exact Nat.le_refl _)] at HO
 go_wp2
 go_ret
 exact ⟨_,rfl,by rw[aBq,HA.out];exact HO.out,HW.out⟩
theorem bEm {n:Nat}{w:World}(hn:n<=1000000) :
  Calls Tryz.prog 296 #[.slice none 0 0,.int .i64 n] w (CloneIs 193 2 0 [] w):=by
 cases n with
 | zero=>
  go_enter Tryz.func296,Tryz.ntmps296
  go_wp2
  go_ret
  exact ⟨_,rfl,World.ownsRow_nil _ _ _ _,Below.refl _ _⟩
 | succ n=>
  obtain ⟨i,z,hi,hz,hsz,hby,hzs⟩:=aHe.row
  have hr:=Lib.run_append_nil_zeros (P:=Tryz.prog) w 190 3 190 193 i z .i64 .i64 aHe.und (by kernel_rfl) hi hz (n+1) (by omega) (by omega) (by omega) (by rw[hby];omega)
  have hG:=aTy w (n+1) 0 193 (by omega) (by unfold maxLen;omega)
  obtain ⟨G,eG⟩:∃G,G=grownCap w (n+1) 0 193:=⟨_,rfl⟩
  rw[<-eG] at hr hG
  have ho:(w.drew.alloc (.cells (Builtin.zeroCells z.cells (n+1)++Builtin.zeroCells z.cells (G-(n+1))) 193)).ownsRow w.heap.size 193 2 (.slice (some ⟨w.heap.size,0,none⟩) 0 G) 0 []:=by
   refine World.ownsRow_made w.drew _ G (Nat.le_refl _) hG.2 ?_
   simp[Builtin.zeroCells,hzs]
   omega
  have hb:Below w.heap.size w (w.drew.alloc (.cells (Builtin.zeroCells z.cells (n+1)++Builtin.zeroCells z.cells (G-(n+1))) 193)):=(Below.refl _ _).drew.alloc (Nat.le_refl _) _
  generalize w.drew.alloc (.cells (Builtin.zeroCells z.cells (n+1)++Builtin.zeroCells z.cells (G-(n+1))) 193)=w1 at *
  go_enter Tryz.func296,Tryz.ntmps296
  go_wp2_with (at_builtin;refine Lib.wpList_append_run _ rfl (.tmp 20) (.tmp 21) _ _ rfl _ _ rfl rfl _ _ hr ?_)
  subst eG
  go_ret
  exact ⟨_,rfl,ho,hb⟩
def RdLL (w:World)(B g:Nat)(Ls:List (List DV)):Prop:=
 ∀(k:Nat) (L:List DV),Ls[k]? = some L->∃A c,w.cell? ⟨g,k,none⟩=some (.slice A L.length c)/\Rd w B 2 A L.length c (L.flatMap DV.cells)
theorem aSd {Ls:List (List DV)}{k:Nat}{L:List DV}(h:Ls[k]? = some L):(Ls.take (k+1)).flatten=(Ls.take k).flatten++L:=by
 rw[List.take_add_one,h];simp
theorem aVz (Ls:List (List DV))(k:Nat):(Ls.take k).flatten.length<=Ls.flatten.length:=by
 have:(Ls.take k).flatten++(Ls.drop k).flatten=Ls.flatten:=by rw[<-List.flatten_append,List.take_append_drop]
 rw[<-this,List.length_append];omega
theorem aHd {g q c:Nat}{Ls:List (List DV)}{w:World}(hq:Ls.length=q)(hq2:q<=1000)(hg:g<w.heap.size)(hn:Ls.flatten.length<=1000000)(h:RdLL w w.heap.size g Ls) :
  Calls Tryz.prog 286 #[.slice (some ⟨g,0,none⟩) q c] w (EdIs Ls.flatten w):=by
 have HQ:=hid hq;clear hq
 go_enter Tryz.func286,Tryz.ntmps286
 go_wp2
 go_loopw[3,11] (fun s i wr=>∃k:Nat,k<=q/\i=.int .i64 k/\s=.int .i64 ((Ls.take k).flatten.length:Nat)/\wr=w) (fun _ i _=>q-(intOf i).toNat)
 case atStart=>exact ⟨0,Nat.zero_le _,rfl,rfl,rfl⟩
 obtain ⟨k,hk,rfl,rfl,rfl⟩:=hrel
 have hle:=aVz Ls k
 by_cases hlt:k<q
 ·have hk2:k<Ls.length:=by rw[HQ.out];exact hlt
  obtain ⟨L,hL⟩:∃L,Ls[k]? = some L:=⟨_,List.getElem?_eq_getElem hk2⟩
  obtain ⟨A,cc,h0,hr⟩:=h k L hL
  have hle2:=aVz Ls (k+1)
  have hs:=aSd hL
  rw[hs,List.length_append] at hle2
  have HL:=hid hs
  clear hs hL
  generalize hS:(Ls.take k).flatten.length=s at *
  have HS:=hid hS
  clear hS
  go_wp2
  go_roundw
  case rel=>exact ⟨k+1,by omega,by go_num,by rw[HL.out,List.length_append,HS.out];push_cast;rfl,trivial⟩
  simp[intOf];omega
 obtain rfl:k=q:=by omega
 rw[List.take_of_length_le (by rw[HQ.out];exact Nat.le_refl _)] at *
 generalize hN:Ls.flatten.length=N at *
 have HN:=hid hN
 clear hN
 have hG:=bEm (n:=N) (w:=wr) hn
 go_wp2_with fail
 refine hG.mono ?_
 rintro e w1 ⟨v0,rfl,ho0,hb0⟩
 have HB0:=hid hb0
 have HO0:=hid ho0
 clear hG hb0 ho0 hle hlt
 go_wp2
 go_loopw[6,27] (fun v i w2=>∃j:Nat,j<=k/\i=.int .i64 j/\Hid (Below wr.heap.size wr w2)/\Hid (w2.ownsRow wr.heap.size 193 2 v (Ls.take j).flatten.length ((Ls.take j).flatten.flatMap DV.cells))) (fun _ i _=>k-(intOf i).toNat)
 case atStart=>exact ⟨0,Nat.zero_le _,rfl,HB0,HO0⟩
 clear HB0 HO0
 obtain ⟨j,hj,rfl,HW,HO⟩:=hrel
 have hws:=HW.out.size
 by_cases hlt:j<k
 ·have hj2:j<Ls.length:=by rw[HQ.out];exact hlt
  obtain ⟨L,hL⟩:∃L,Ls[j]? = some L:=⟨_,List.getElem?_eq_getElem hj2⟩
  obtain ⟨A,cc,h0,hr⟩:=h j L hL
  have hle2:=aVz Ls (j+1)
  rw[HN.out] at hle2
  have hs:=aSd hL
  rw[hs,List.length_append] at hle2
  have HL:=hid hs
  clear hs hL
  have c0:=(HW.out.cell (p:=⟨g,j,none⟩) hg).trans h0
  have HR:=hid ((hr.below HW.out).more hws)
  clear hr
  have hsum:(Ls.take j).flatten.length+L.length<=1000000:=by omega
  go_wp2_with (at_builtin;refine aAn rfl (.tmp 31) (.tmp 32) 190 rfl aHe rfl rfl HO.out HR.out (aFd _) (by unfold maxLen;omega) (by omega) hws ?_;intro v7 w7 ho7 hg7 hv7)
  have HW7:=hid (HW.out.grown hg7 hws (fun g hg=>(HO.out.lt g hg).1))
  have HO7:=hid ho7
  clear ho7 hg7 hv7 HO HW
  go_roundw
  case rel=>
   refine ⟨j+1,by omega,by go_num,HW7,?_⟩
   rw[HL.out,List.flatMap_append,List.length_append]
   exact HO7
  simp[intOf];omega
 obtain rfl:j=k:=by omega
 rw[List.take_of_length_le (by rw[HQ.out];exact Nat.le_refl _)] at HO
 go_wp2
 go_ret
 exact ⟨_,rfl,HO.out,HW.out⟩
end Go.Proofs.YtohblmepajhpaaaGreatDoor
