/- Texts of the walks, together: Walk: Renames' order of pairs. Contracts of the library at this seat, laid by the shelf, in plain words. Renames' order of pairs is a strict weak order; the sort's worlds. Rows of structs in the sort's words. Walk: slices.SortFunc of the pairs. Walk: similar.Renames, up to the search's block. Walk: similar.Renames. A map's entry that is made first and stored into after (m[k], .. = v, ..): together the one update. The maps of treemerge's side in memory: from where to where, and what is taken. -/
import Derived.Shelf.SlSortCmp.NoneTotal
import Derived.Shelf.SlGeneric
import Derived.Test.YtohblmepajhpaaaGreatDoorRows
import Derived.Test.YtohblmepajhpaaaGreatDoorG16
set_option maxHeartbeats 8000000
set_option maxRecDepth 100000
open Go.Lib (hid)
namespace Go.Proofs.YtohblmepajhpaaaGreatDoor
open Go.RowKit
def cmpP (base:List FV)(x y:Nat×Nat):Int:=orI (cmpS (((base[x.1]?).map FV.path).getD ⟨#[]⟩) (((base[y.1]?).map FV.path).getD ⟨#[]⟩)) (Lib.compareInt (x.1:Int) (y.1:Int))
def GrowsI (v:Int)(u:World)(e:Ending) (w':World):Prop:=e=.returned (.int .i64 v)/\∃q os',w'=Sort.grow (u.drewN q) os'
theorem bAy {P:Program}{S:World->Prop}{a:Act} {w w':World}{K:Act->World->Prop}{dst:Option Tmp}{t ty:TypeId}{k:Nat}{parts:Array (Nat×Operand)}{q:Bool}{g:Option (Tmp×Bool)}{vs:Array (Nat×Value)}{v:Value}
  (hv:(parts.toList.map fun p=>(p.1,a.eval p.2)).toArray=vs) (hr:(Instr.buildSlice t k vs).run P w=.ok v w') (hK:S w'/\K (a.put dst v) w'):effq P S ⟨q,dst,.buildSlice t k parts,ty,g⟩ a w K:=by
 intro p af g
 have hv':(parts.map fun p=>(p.1,a.eval p.2))=vs:=by rw[<-hv];apply Array.toList_inj.1;simp
 unfold Oper.wp execOp
 simp only[hv',hr,Sem.run_bind,Sem.run_pure,Result.andThen_ok]
 exact hK
theorem grow3 (u:World)(a b c:Obj):(((u.alloc a).alloc b).drew).alloc c=Sort.grow (u.drewN 1) #[a,b,c]:=by
 have:((u.heap.push a).push b).push c=u.heap++#[a,b,c]:=by
  apply Array.toList_inj.1;simp
 unfold World.alloc World.drew World.drewN Sort.grow
 simp only[this]
theorem aZj {P:Program}{t e:TypeId}{bytes:Nat}(E:Elem P t e 1 bytes)(a b:Value)(ha:a.cells=#[a])(hb:b.cells=#[b])(w:World) :
  (Instr.buildSlice t 2 #[(0,a),(1,b)]).run P w=.ok (.slice (some ⟨w.heap.size,0,none⟩) 2 2) (w.alloc (.cells #[a,b] e)):=by
 obtain ⟨i,z,hi,hz,hsz,hby,hzs⟩:=E.row
 obtain ⟨z0,hzc⟩:∃z0,z.cells=#[z0]:=by
  have:=hzs
  match h:z.cells,this with
  | ⟨[z0]⟩,_=>exact ⟨z0,rfl⟩
 simp[Instr.buildSlice,run_underlying E.und,sizeOf,typeInfo,hi,hsz,zeroValue,hz,Instr.fill,ha,hb,hzc,newRow,show Array.range 2=#[0,1] from rfl]
theorem bBh {w0 u:World}{bx n c:Nat}{A:Option Addr}{base:List FV}{p q p1 q1:Nat}(hb:RdF w0 w0.heap.size A n c base)(hu:Below w0.heap.size w0 u)(h0:u.cell? ⟨bx,0,none⟩=some (.slice A n c))(hbx:bx<u.heap.size)(hp:p<base.length)(hq:q<base.length) :
  Calls Tryz.prog 173 #[.agg #[.int .i64 (p:Int),.int .i64 (p1:Int)],.agg #[.int .i64 (q:Int),.int .i64 (q1:Int)],.pointer (some ⟨bx,0,none⟩)] u (GrowsI (cmpP base (p,p1) (q,q1)) u):=by
 rw[hb.len] at hp hq
 obtain ⟨b0,o0,x,rfl,hbb,hx,_,p0,_,_⟩:=hb.get hp
 obtain ⟨b1,o1,y,e,hbb1,hy,_,q0,_,_⟩:=hb.get hq
 injection e with e
 injection e with e1 e2
 subst e1 e2
 replace p0:=(hu.cell (p:=⟨b0,o0+p*3,none⟩) hbb).trans p0
 replace q0:=(hu.cell (p:=⟨b0,o0+q*3,none⟩) hbb).trans q0
 have HC:=hid (show cmpP base (p,p1) (q,q1)=orI (cmpS x.path y.path) (Lib.compareInt p q) by unfold cmpP;rw[hx,hy];rfl)
 have hlt:=Nat.lt_of_lt_of_le hbb hu.size
 clear hx hy hb hu hbb hbb1
 obtain ⟨x,xe,xt⟩:=x
 obtain ⟨y,ye,yt⟩:=y
 dsimp only at p0 q0 HC
 rw[HC.out]
 clear HC
 obtain ⟨R,hR⟩:∃R,R=orI (cmpS x y) (Lib.compareInt p q):=⟨_,rfl⟩
 rw[<-hR]
 have HR:=hid hR
 clear hR
 go_enter Tryz.func173,Tryz.ntmps173
 go_wp2
 have hW:Below u.heap.size u ((u.alloc (.cells #[.int .i64 (p:Int),.int .i64 (p1:Int)] 234)).alloc (.cells #[.int .i64 (q:Int),.int .i64 (q1:Int)] 234)):=((Below.refl _ _).alloc (Nat.le_refl _) _).alloc (by simp) _
 have a0:=(hW.cell (p:=⟨b0,o0+p*3,none⟩) hlt).trans p0
 have a1:=(hW.cell (p:=⟨b0,o0+q*3,none⟩) hlt).trans q0
 have a2:=(hW.cell (p:=⟨bx,0,none⟩) hbx).trans h0
 have x0:((u.alloc (.cells #[.int .i64 (p:Int),.int .i64 (p1:Int)] 234)).alloc (.cells #[.int .i64 (q:Int),.int .i64 (q1:Int)] 234)).heap[u.heap.size]? = some (.cells #[.int .i64 (p:Int),.int .i64 (p1:Int)] 234 (0,0)):=by
  have h1:=heap_alloc_new u (.cells #[.int .i64 (p:Int),.int .i64 (p1:Int)] 234)
  exact (((Below.refl _ _).alloc (Nat.le_refl _) _).block _ (by simp)).trans h1
 have x1:((u.alloc (.cells #[.int .i64 (p:Int),.int .i64 (p1:Int)] 234)).alloc (.cells #[.int .i64 (q:Int),.int .i64 (q1:Int)] 234)).heap[u.heap.size+1]? = some (.cells #[.int .i64 (q:Int),.int .i64 (q1:Int)] 234 (0,0)):=by
  have:=heap_alloc_new (u.alloc (.cells #[.int .i64 (p:Int),.int .i64 (p1:Int)] 234)) (.cells #[.int .i64 (q:Int),.int .i64 (q1:Int)] 234)
  simpa using this
 have hb0:=Nat.lt_of_lt_of_le hlt hW.size
 have hbW:=Nat.lt_of_lt_of_le hbx hW.size
 have HEW:=hid (show ∀o:Obj,((((u.alloc (.cells #[.int .i64 (p:Int),.int .i64 (p1:Int)] 234)).alloc (.cells #[.int .i64 (q:Int),.int .i64 (q1:Int)] 234)).drew).alloc o)=Sort.grow (u.drewN 1) #[.cells #[.int .i64 (p:Int),.int .i64 (p1:Int)] 234,.cells #[.int .i64 (q:Int),.int .i64 (q1:Int)] 234,o] from fun o=>grow3 _ _ _ _)
 generalize hWe:(u.alloc (.cells #[.int .i64 (p:Int),.int .i64 (p1:Int)] 234)).alloc (.cells #[.int .i64 (q:Int),.int .i64 (q1:Int)] 234)=W at *
 clear hWe p0 q0 h0 hW
 refine aAh (fun w'=>Below W.heap.size W w') [(true,0),(true,1),(true,2),(true,3),(true,4),(true,5),(true,6),(true,7),(true,8),(true,9),(true,10),(true,11),(true,13),(true,14),(true,15),(true,16),(false,12),(false,17),(false,18),(false,19),(true,20)] mixed (by kernel_rfl) (Below.refl _ _).drew ?_
 intro Tp M Q hT hT' hM hQ
 have m0:M ⟨b0,o0+p*3,none⟩=some (.string x):=hM _ _ fun w' hw=>(hw.cell (p:=⟨b0,o0+p*3,none⟩) hb0).trans a0
 have m1:M ⟨b0,o0+q*3,none⟩=some (.string y):=hM _ _ fun w' hw=>(hw.cell (p:=⟨b0,o0+q*3,none⟩) hb0).trans a1
 have m2:M ⟨bx,0,none⟩=some (.slice (some ⟨b0,o0,none⟩) n c):=hM _ _ fun w' hw=>(hw.cell (p:=⟨bx,0,none⟩) hbW).trans a2
 have m3:M ⟨u.heap.size,0,none⟩=some (.int .i64 (p:Int)):=hM _ _ fun w' hw=>by rw[Lib.cell_of_heap ((hw.block _ (aAa x0)).trans x0)];rfl
 have m4:M ⟨u.heap.size+1,0,none⟩=some (.int .i64 (q:Int)):=hM _ _ fun w' hw=>by rw[Lib.cell_of_heap ((hw.block _ (aAa x1)).trans x1)];rfl
 clear hM
 simp only[qcmp]
 simp (maxSteps:=9^7) only[↓qpre,aAb,aAe,aAc,m0,m1,m2,m3,m4]
 (repeat refine And.intro (by first|omega|(unfold inI64;omega)) ?_)
 clear m0 m1 m2 m3 m4 a0 a1 a2 x0 x1
 refine aAi (by kernel_rfl) (aFn (a:=x) (b:=y)) rfl rfl ?_
 rintro e w1 ⟨rfl,rfl⟩
 refine ⟨_,rfl,hT _ (Below.refl _ _).drew,?_⟩
 simp (maxSteps:=9^7) only[aAb,aAc]
 refine aAi (by kernel_rfl) (Tryz.cmp_Compare_int (p:Int) (q:Int) W.drew) rfl rfl ?_
 rintro e w1 ⟨rfl,rfl⟩
 refine ⟨_,rfl,hT _ (Below.refl _ _).drew,?_⟩
 simp (maxSteps:=9^7) only[aAb,aAc]
 refine bAy rfl (aZj bHh _ _ rfl rfl _) ⟨hT _ ((Below.refl _ _).drew.alloc (Nat.le_refl _) _),?_⟩
 simp (maxSteps:=9^7) only[aAb,aAc]
 refine aAi (by kernel_rfl) (bJl (heap_alloc_new W.drew _)) rfl rfl ?_
 rintro e w1 ⟨rfl,rfl⟩
 refine ⟨_,rfl,hT _ ((Below.refl _ _).drew.alloc (Nat.le_refl _) _),?_⟩
 simp (maxSteps:=9^7) only[↓qpre,aAb,aAc]
 refine hQ _ _ ?_
 rw[HEW.out]
 have HG:Hid (GrowsI R u (.returned (.int .i64 (orI (cmpS x y) (Lib.compareInt p q)))) (Sort.grow (u.drewN 1) #[.cells #[.int .i64 (p:Int),.int .i64 (p1:Int)] 234,.cells #[.int .i64 (q:Int),.int .i64 (q1:Int)] 234,.cells #[.int .i64 (cmpS x y),.int .i64 (Lib.compareInt p q)] 3])):=hid ⟨by rw[HR.out],1,_,rfl⟩
 rw[<-HR.out] at HG ⊢
 clear hQ hT hT' HEW HR
 go_wp2
 go_ret
 exact HG.out
end Go.Proofs.YtohblmepajhpaaaGreatDoor
namespace Go.Proofs.YtohblmepajhpaaaGreatDoor
open Go.Shelf
def Tryz.sortP_ren:Go.Shelf.Ren:=⟨fun | 6=>172 | 15=>160 | 14=>211 | 28=>197 | 29=>198 | 20=>250 | 21=>251 | 22=>252 | 23=>253 | 24=>254 | 25=>255 | 26=>256 | 27=>257 | 46=>281 | 47=>228 | 48=>229 | 49=>282 | 50=>283 | 57=>295 | n=>n,fun | 22=>229 | 24=>234 | 25=>237 | 3=>3 | 39=>28 | 0=>0 | 53=>257 | 55=>166 | 4=>4 | 46=>251 | 45=>250 | 50=>123 | 5=>5 | 9=>9 | 66=>289 | 70=>293 | 76=>315 | 77=>316 | n=>n,fun | n=>n⟩
theorem Tryz.sortP:Go.Proofs.SlLaysF0.n6 Tryz.prog Tryz.sortP_ren:={
 mixed:=by kernel_rfl
 f6:=⟨Tryz.f172.name,by decide,Tryz.func172.trans (congrArg some (by kernel_rfl))⟩
 f14:=⟨Tryz.f211.name,by decide,Tryz.func211.trans (congrArg some (by kernel_rfl))⟩
 f15:=Tryz.func160.trans (congrArg some (by kernel_rfl))
 f20:=⟨Tryz.f250.name,by decide,Tryz.func250.trans (congrArg some (by kernel_rfl))⟩
 f21:=⟨Tryz.f251.name,by decide,Tryz.func251.trans (congrArg some (by kernel_rfl))⟩
 f22:=⟨Tryz.f252.name,by decide,Tryz.func252.trans (congrArg some (by kernel_rfl))⟩
 f23:=⟨Tryz.f253.name,by decide,Tryz.func253.trans (congrArg some (by kernel_rfl))⟩
 f24:=⟨Tryz.f254.name,by decide,Tryz.func254.trans (congrArg some (by kernel_rfl))⟩
 f25:=⟨Tryz.f255.name,by decide,Tryz.func255.trans (congrArg some (by kernel_rfl))⟩
 f26:=⟨Tryz.f256.name,by decide,Tryz.func256.trans (congrArg some (by kernel_rfl))⟩
 f27:=⟨Tryz.f257.name,by decide,Tryz.func257.trans (congrArg some (by kernel_rfl))⟩
 f28:=Tryz.func197.trans (congrArg some (by kernel_rfl))
 f29:=Tryz.func198.trans (congrArg some (by kernel_rfl))
 f46:=⟨Tryz.f281.name,by decide,Tryz.func281.trans (congrArg some (by kernel_rfl))⟩
 f47:=Tryz.func228.trans (congrArg some (by kernel_rfl))
 f48:=Tryz.func229.trans (congrArg some (by kernel_rfl))
 f49:=⟨Tryz.f282.name,by decide,Tryz.func282.trans (congrArg some (by kernel_rfl))⟩
 f50:=⟨Tryz.f283.name,by decide,Tryz.func283.trans (congrArg some (by kernel_rfl))⟩
 f57:=⟨Tryz.f295.name,by decide,Tryz.func295.trans (congrArg some (by kernel_rfl))⟩
 t0:=Tryz.underlying0
 a0:=Tryz.isAgg0
 z0:=Tryz.sizeOf0
 v0:=Tryz.zeroValue0
 t3:=Tryz.underlying3
 a3:=Tryz.isAgg3
 z3:=Tryz.sizeOf3
 v3:=Tryz.zeroValue3
 t4:=Tryz.underlying4
 a4:=Tryz.isAgg4
 z4:=Tryz.sizeOf4
 v4:=Tryz.zeroValue4
 t5:=Tryz.underlying5
 a5:=Tryz.isAgg5
 z5:=Tryz.sizeOf5
 v5:=Tryz.zeroValue5
 t9:=Tryz.underlying9
 a9:=Tryz.isAgg9
 z9:=Tryz.sizeOf9
 v9:=Tryz.zeroValue9
 t22:=Tryz.underlying229
 a22:=Tryz.isAgg229
 z22:=Tryz.sizeOf229
 v22:=Tryz.zeroValue229
 t25:=Tryz.underlying237
 a25:=Tryz.isAgg237
 z25:=Tryz.sizeOf237
 v25:=Tryz.zeroValue237
 t39:=Tryz.underlying28
 a39:=Tryz.isAgg28
 z39:=Tryz.sizeOf28
 v39:=Tryz.zeroValue28
 t45:=Tryz.underlying250
 a45:=Tryz.isAgg250
 z45:=Tryz.sizeOf250
 v45:=Tryz.zeroValue250
 t46:=Tryz.underlying251
 a46:=Tryz.isAgg251
 z46:=Tryz.sizeOf251
 v46:=Tryz.zeroValue251
 t50:=Tryz.underlying123
 a50:=Tryz.isAgg123
 z50:=Tryz.sizeOf123
 v50:=Tryz.zeroValue123
 t53:=Tryz.underlying257
 a53:=Tryz.isAgg257
 z53:=Tryz.sizeOf257
 v53:=Tryz.zeroValue257
 t55:=Tryz.underlying166
 a55:=Tryz.isAgg166
 z55:=Tryz.sizeOf166
 v55:=Tryz.zeroValue166
 t66:=Tryz.underlying289
 a66:=Tryz.isAgg289
 z66:=Tryz.sizeOf289
 v66:=Tryz.zeroValue289
 t70:=Tryz.underlying293
 a70:=Tryz.isAgg293
 z70:=Tryz.sizeOf293
 v70:=Tryz.zeroValue293
 t76:=Tryz.underlying315
 a76:=Tryz.isAgg315
 z76:=Tryz.sizeOf315
 v76:=Tryz.zeroValue315
 t77:=Tryz.underlying316
 a77:=Tryz.isAgg316
 z77:=Tryz.sizeOf316
 v77:=Tryz.zeroValue316 }
def Tryz.sortF_ren:Go.Shelf.Ren:=⟨fun | 6=>133 | 15=>160 | 14=>159 | 28=>197 | 29=>198 | 20=>189 | 21=>190 | 22=>191 | 23=>192 | 24=>193 | 25=>194 | 26=>195 | 27=>196 | 46=>227 | 47=>228 | 48=>229 | 49=>230 | 50=>231 | 57=>269 | n=>n,fun | 22=>29 | 24=>48 | 25=>185 | 3=>3 | 39=>28 | 0=>0 | 53=>257 | 55=>166 | 4=>4 | 46=>251 | 45=>250 | 50=>123 | 5=>5 | 9=>9 | 66=>289 | 70=>293 | 76=>315 | 77=>316 | n=>n,fun | n=>n⟩
theorem Tryz.sortF:Go.Proofs.SlLaysF0.n6 Tryz.prog Tryz.sortF_ren:={
 mixed:=by kernel_rfl
 f6:=⟨Tryz.f133.name,by decide,Tryz.func133.trans (congrArg some (by kernel_rfl))⟩
 f14:=⟨Tryz.f159.name,by decide,Tryz.func159.trans (congrArg some (by kernel_rfl))⟩
 f15:=Tryz.func160.trans (congrArg some (by kernel_rfl))
 f20:=⟨Tryz.f189.name,by decide,Tryz.func189.trans (congrArg some (by kernel_rfl))⟩
 f21:=⟨Tryz.f190.name,by decide,Tryz.func190.trans (congrArg some (by kernel_rfl))⟩
 f22:=⟨Tryz.f191.name,by decide,Tryz.func191.trans (congrArg some (by kernel_rfl))⟩
 f23:=⟨Tryz.f192.name,by decide,Tryz.func192.trans (congrArg some (by kernel_rfl))⟩
 f24:=⟨Tryz.f193.name,by decide,Tryz.func193.trans (congrArg some (by kernel_rfl))⟩
 f25:=⟨Tryz.f194.name,by decide,Tryz.func194.trans (congrArg some (by kernel_rfl))⟩
 f26:=⟨Tryz.f195.name,by decide,Tryz.func195.trans (congrArg some (by kernel_rfl))⟩
 f27:=⟨Tryz.f196.name,by decide,Tryz.func196.trans (congrArg some (by kernel_rfl))⟩
 f28:=Tryz.func197.trans (congrArg some (by kernel_rfl))
 f29:=Tryz.func198.trans (congrArg some (by kernel_rfl))
 f46:=⟨Tryz.f227.name,by decide,Tryz.func227.trans (congrArg some (by kernel_rfl))⟩
 f47:=Tryz.func228.trans (congrArg some (by kernel_rfl))
 f48:=Tryz.func229.trans (congrArg some (by kernel_rfl))
 f49:=⟨Tryz.f230.name,by decide,Tryz.func230.trans (congrArg some (by kernel_rfl))⟩
 f50:=⟨Tryz.f231.name,by decide,Tryz.func231.trans (congrArg some (by kernel_rfl))⟩
 f57:=⟨Tryz.f269.name,by decide,Tryz.func269.trans (congrArg some (by kernel_rfl))⟩
 t0:=Tryz.underlying0
 a0:=Tryz.isAgg0
 z0:=Tryz.sizeOf0
 v0:=Tryz.zeroValue0
 t3:=Tryz.underlying3
 a3:=Tryz.isAgg3
 z3:=Tryz.sizeOf3
 v3:=Tryz.zeroValue3
 t4:=Tryz.underlying4
 a4:=Tryz.isAgg4
 z4:=Tryz.sizeOf4
 v4:=Tryz.zeroValue4
 t5:=Tryz.underlying5
 a5:=Tryz.isAgg5
 z5:=Tryz.sizeOf5
 v5:=Tryz.zeroValue5
 t9:=Tryz.underlying9
 a9:=Tryz.isAgg9
 z9:=Tryz.sizeOf9
 v9:=Tryz.zeroValue9
 t22:=Tryz.underlying29
 a22:=Tryz.isAgg29
 z22:=Tryz.sizeOf29
 v22:=Tryz.zeroValue29
 t25:=Tryz.underlying185
 a25:=Tryz.isAgg185
 z25:=Tryz.sizeOf185
 v25:=Tryz.zeroValue185
 t39:=Tryz.underlying28
 a39:=Tryz.isAgg28
 z39:=Tryz.sizeOf28
 v39:=Tryz.zeroValue28
 t45:=Tryz.underlying250
 a45:=Tryz.isAgg250
 z45:=Tryz.sizeOf250
 v45:=Tryz.zeroValue250
 t46:=Tryz.underlying251
 a46:=Tryz.isAgg251
 z46:=Tryz.sizeOf251
 v46:=Tryz.zeroValue251
 t50:=Tryz.underlying123
 a50:=Tryz.isAgg123
 z50:=Tryz.sizeOf123
 v50:=Tryz.zeroValue123
 t53:=Tryz.underlying257
 a53:=Tryz.isAgg257
 z53:=Tryz.sizeOf257
 v53:=Tryz.zeroValue257
 t55:=Tryz.underlying166
 a55:=Tryz.isAgg166
 z55:=Tryz.sizeOf166
 v55:=Tryz.zeroValue166
 t66:=Tryz.underlying289
 a66:=Tryz.isAgg289
 z66:=Tryz.sizeOf289
 v66:=Tryz.zeroValue289
 t70:=Tryz.underlying293
 a70:=Tryz.isAgg293
 z70:=Tryz.sizeOf293
 v70:=Tryz.zeroValue293
 t76:=Tryz.underlying315
 a76:=Tryz.isAgg315
 z76:=Tryz.sizeOf315
 v76:=Tryz.zeroValue315
 t77:=Tryz.underlying316
 a77:=Tryz.isAgg316
 z77:=Tryz.sizeOf316
 v77:=Tryz.zeroValue316 }
end Go.Proofs.YtohblmepajhpaaaGreatDoor
namespace Go.Proofs.YtohblmepajhpaaaGreatDoor
open Go.RowKit Go.Sort
theorem aGg (a b:ByteArray):cmpS a b<0↔a.data.toList<b.data.toList:=by
 unfold cmpS
 rw[aRf]
 by_cases h:a.data.toList<b.data.toList
 ·simp[h]
 simp only[h,decide_false,Bool.false_eq_true,if_false,iff_false]
 split<;>omega
theorem aTd (a b:ByteArray):cmpS a b=0↔a.data.toList=b.data.toList:=by
 unfold cmpS
 rw[aRf]
 by_cases h:a.data.toList<b.data.toList
 ·simp only[h,decide_true,if_true]
  constructor
  ·intro h2;omega
  intro h2;rw[h2] at h;exact absurd h (List.lt_irrefl _)
 simp only[h,decide_false,Bool.false_eq_true,if_false]
 rw[Lib.toList_data,Lib.toList_data]
 by_cases h2:a.data.toList=b.data.toList
 ·simp[h2]
 rw[if_neg (by simpa using h2)]
 constructor
 ·intro h3;omega
 intro h3;exact absurd h3 h2
def keyB (base:List FV)(x:Nat×Nat):List UInt8×Nat:=((((base[x.1]?).map FV.path).getD ⟨#[]⟩).data.toList,x.1)
def ltK (x y:List UInt8×Nat):Prop:=x.1<y.1\/(x.1=y.1/\x.2<y.2)
theorem aQh (base:List FV)(x y:Nat×Nat):cmpP base x y<0↔ltK (keyB base x) (keyB base y):=by
 unfold cmpP orI ltK keyB
 dsimp only
 generalize ((base[x.1]?).map FV.path).getD ⟨#[]⟩=a
 generalize ((base[y.1]?).map FV.path).getD ⟨#[]⟩=b
 by_cases h:cmpS a b=0
 ·rw[if_pos h]
  have h2:=(aTd a b).1 h
  rw[h2]
  have:Lib.compareInt (x.1:Int) (y.1:Int)<0↔x.1<y.1:=by
   unfold Lib.compareInt
   split
   ·constructor<;>intro<;>omega
   split<;>(constructor<;>intro<;>omega)
  rw[this]
  constructor
  ·intro h3;exact .inr ⟨rfl,h3⟩
  rintro (h3 | ⟨_,h3⟩)
  ·exact absurd h3 (List.lt_irrefl _)
  exact h3
 rw[if_neg h,aGg]
 constructor
 ·exact .inl
 rintro (h3 | ⟨h3,_⟩)
 ·exact h3
 exact absurd ((aTd a b).2 h3) h
theorem bIb {x y:List UInt8×Nat}(h1:¬ltK x y)(h2:¬ltK y x):x=y:=by
 unfold ltK at h1 h2
 have e:x.1=y.1:=by
  rcases Std.lt_trichotomy x.1 y.1 with h | h | h
  ·exact absurd (.inl h) h1
  ·exact h
  exact absurd (.inl h) h2
 have e2:x.2=y.2:=by
  rcases Nat.lt_trichotomy x.2 y.2 with h | h | h
  ·exact absurd (.inr ⟨e,h⟩) h1
  ·exact h
  exact absurd (.inr ⟨e.symm,h⟩) h2
 exact Prod.ext e e2
theorem aZg (x:List UInt8×Nat):¬ltK x x:=by
 rintro (h | ⟨_,h⟩)
 ·exact List.lt_irrefl _ h
 omega
theorem aSf {x y z:List UInt8×Nat}(h1:ltK x y)(h2:ltK y z):ltK x z:=by
 rcases h1 with h1 | ⟨e1,h1⟩<;>rcases h2 with h2 | ⟨e2,h2⟩
 ·exact .inl (List.lt_trans h1 h2)
 ·exact .inl (e2▸h1)
 ·exact .inl (e1▸h2)
 exact .inr ⟨e1.trans e2,by omega⟩
theorem swoP (base:List FV) {α:Type}(f:α->Nat×Nat):SWO (ltOf fun x y:α=>cmpP base (f x) (f y)) where
 irrefl x:=by unfold ltOf;rw[decide_eq_false];rw[aQh];exact aZg _
 trans x y z h1 h2:=by
  unfold ltOf at *
  rw[decide_eq_true_iff,aQh] at *
  exact aSf h1 h2
 ntrans x y z h1 h2:=by
  unfold ltOf at *
  rw[decide_eq_false_iff_not,aQh] at *
  intro h3
  by_cases h4:ltK (keyB base (f y)) (keyB base (f x))
  ·exact h2 (aSf h4 h3)
  rw[bIb h1 h4] at h3
  exact h2 h3
theorem aHg {α:Type} [Inhabited α] (enc:α->List Value)(k:Nat)(w:World)(blk off n:Nat)(d:Array α)(os:Array Obj):w.grownBy (sortWorldK enc k w blk off n d os) (some blk):=by
 refine ⟨rfl,rfl,rfl,?_,fun i hi hne=>?_⟩
 ·simp[sortWorldK,putRowK,putRow,mapBlock,Sort.grow,Sort.ahead]
 have hne':¬blk=i:=fun e=>hne (by rw[e])
 simp only[sortWorldK,putRowK,putRow,mapBlock,Sort.grow,Sort.ahead]
 rw[Array.getElem?_append_left (by simpa using hi),Array.getElem?_modify,if_neg hne']
theorem flat_get {α:Type}{enc:α->List Value}{k:Nat}(hk:∀x,(enc x).length=k):∀{l:List α} {i c:Nat} {x:α},l[i]? = some x->c<k->(l.flatMap enc)[i*k+c]? = (enc x)[c]?
 | [],i,c,x,h,_=>by cases h
 | a::l,0,c,x,h,hc=>by
  cases h
  rw[List.flatMap_cons,Nat.zero_mul,Nat.zero_add,List.getElem?_append_left (by rw[hk];exact hc)]
 | a::l,i+1,c,x,h,hc=>by
  have h':l[i]? = some x:=h
  rw[List.flatMap_cons,List.getElem?_append_right (by rw[hk,Nat.add_mul,Nat.one_mul];omega),hk,show (i+1)*k+c-k=i*k+c by rw[Nat.add_mul,Nat.one_mul];omega]
  exact flat_get hk h' hc
theorem aGe {α:Type}{enc:α->List Value}{k:Nat}(hk:∀x,(enc x).length=k):∀l:List α,(l.flatMap enc).length=l.length*k
 | []=>by simp
 | a::l=>by rw[List.flatMap_cons,List.length_append,hk,aGe hk l,List.length_cons,Nat.add_mul,Nat.one_mul];omega
theorem aWu {α:Type} [Inhabited α] {enc:α->List Value}{k:Nat}(h0:0<k)(hk:∀x,(enc x).length=k)(d:Array α):flatK enc k d=(d.toList.flatMap enc).toArray:=by
 apply Array.toList_inj.1
 refine List.ext_getElem? fun t=>?_
 by_cases ht:t<d.size*k
 ·have hi:t / k<d.size:=Nat.div_lt_of_lt_mul (by rw[Nat.mul_comm];exact ht)
  have hc:t % k<k:=Nat.mod_lt _ h0
  have e:t / k*k+t % k=t:=by rw[Nat.mul_comm];exact Nat.div_add_mod t k
  have hx:d.toList[t / k]? = some d[t / k]!:=by
   rw[getElem!_pos d (t / k) hi];simp[hi]
  have h1:=flat_get hk hx hc
  rw[e] at h1
  have h2:=get_flatK enc k d t ht
  rw[getElem!_pos _ _ (by rw[size_flatK];exact ht)] at h2
  show _=(d.toList.flatMap enc)[t]?
  rw[List.getElem?_eq_getElem (by simpa using ht),h1]
  rw[List.getElem?_eq_getElem (by rw[hk];exact hc)]
  congr 1
  rw[Array.getElem_toList,h2,getElem!_pos _ _ (by rw[hk];exact hc)]
 rw[List.getElem?_eq_none (by simpa using Nat.le_of_not_lt ht),List.getElem?_eq_none (show (d.toList.flatMap enc).length<=t by rw[aGe hk,Array.length_toList];exact Nat.le_of_not_lt ht)]
theorem aSq {α:Type} [Inhabited α] {enc:α->List Value}{k:Nat}(h0:0<k)(hk:∀x,(enc x).length=k){w:World}{g:Nat}{cur:Array Value}{T:TypeId}{d:Array α}(hg:w.heap[g]? = some (.cells cur T (0,0)))
  (ht:cur.toList.take (d.size*k)=d.toList.flatMap enc):HoldsK enc k w g 0 d:=by
 unfold HoldsK
 intro j hj
 rw[size_flatK] at hj
 refine ⟨?_,aAk hg⟩
 rw[Nat.zero_add,aWu h0 hk,cell_of_row w _ _ _ _ _ hg]
 have h1:(d.toList.flatMap enc)[j]? = cur.toList[j]?:=by rw[<-ht,List.getElem?_take_of_lt hj]
 have h2:j<(d.toList.flatMap enc).length:=by rw[aGe hk];simpa using hj
 rw[getElem!_pos _ _ (by simpa using h2)]
 rw[List.getElem?_eq_getElem h2] at h1
 simpa using h1.symm
theorem aOp {α:Type} [Inhabited α] {enc:α->List Value}{k:Nat}(h0:0<k)(hk:∀x,(enc x).length=k){w:World}{g n:Nat}{cur:Array Value}{T:TypeId}{d:Array α}{os:Array Obj}(hg:w.heap[g]? = some (.cells cur T (0,0)))(hs:d.size*k<=cur.size) :
  ∃cur',(sortWorldK enc k w g 0 n d os).heap[g]? = some (.cells cur' T (0,0))/\cur'.size=cur.size/\cur'.toList.take (d.size*k)=d.toList.flatMap enc:=by
 have hlt:g<w.heap.size:=aAa hg
 refine ⟨putCells id 0 (flatK enc k d) cur,?_,by simp[putCells],?_⟩
 ·simp only[sortWorldK,putRowK,putRow,mapBlock,Sort.grow,Sort.ahead]
  rw[Array.getElem?_append_left (by simpa using hlt),Array.getElem?_modify,if_pos rfl,hg]
  rfl
 refine List.ext_getElem? fun t=>?_
 by_cases ht:t<d.size*k
 ·have h2:t<(d.toList.flatMap enc).length:=by rw[aGe hk];simpa using ht
  have h3:t<cur.size:=Nat.lt_of_lt_of_le ht hs
  rw[List.getElem?_take_of_lt ht,List.getElem?_eq_getElem h2,Array.getElem?_toList]
  simp only[putCells,Array.getElem?_mapIdx,Array.getElem?_eq_getElem h3,Option.map_some,Nat.zero_le,true_and,Nat.zero_add,size_flatK,ht,if_true,Nat.sub_zero,id]
  congr 1
  rw[aWu h0 hk,getElem!_pos _ _ (by simpa using h2)]
  simp
 rw[List.getElem?_eq_none (by rw[List.length_take];omega),List.getElem?_eq_none (by rw[aGe hk,Array.length_toList];omega)]
theorem aSl (x:Nat×Nat):(pairC x).length=2:=rfl
theorem bCq (x:Nat×Nat):∀v∈pairC x,v.oneCell'=true:=by
 intro v hv
 simp only[pairC,List.mem_cons,List.mem_nil_iff,or_false] at hv
 rcases hv with rfl | rfl<;>rfl
def SortedPs (w0 w:World)(v:Value)(ps:List (Nat×Nat))(e:Ending) (w':World):Prop:=
 e=.returned (.tuple #[])/\∃ps':List (Nat×Nat),ps'.Perm ps/\w'.ownsRow w0.heap.size 234 2 v ps'.length (pairsV ps')/\w.grownBy w' v.ownBlock
theorem bCj {w0 w:World}{bx n c:Nat}{A:Option Addr}{base:List FV}{v:Value}{ps:List (Nat×Nat)}(hb:RdF w0 w0.heap.size A n c base)(hw:Below w0.heap.size w0 w)(h0:w.cell? ⟨bx,0,none⟩=some (.slice A n c))(hbx:bx<w.heap.size)
  (ho:w.ownsRow w0.heap.size 234 2 v ps.length (pairsV ps)) (hne:v.ownBlock≠some bx) (hp:∀p∈ps,p.1<base.length) (hl:ps.length<=100000) :
  Calls Tryz.prog 172 #[v,.func (.func 173) #[] #[.pointer (some ⟨bx,0,none⟩)]] w (SortedPs w0 w v ps):=by
 rcases ho.2 with ⟨rfl,hl0⟩ | ⟨g,cap,cur,rfl,hgB,hg,hnc,hcm,hcs,ht⟩
 ·have:ps=[]:=List.length_eq_zero_iff.1 hl0
  subst this
  have K:=AnyF.slices_SortFunc_none Tryz.sortP none 0 (.func (.func 173) #[] #[.pointer (some ⟨bx,0,none⟩)]) w
  refine Calls.mono (show Calls Tryz.prog 172 _ w _ from K) ?_
  rintro e w' ⟨rfl,rfl⟩
  exact ⟨rfl,[],List.Perm.refl _,ho,(aAo (Below.refl _ _)).but _⟩
 have hgw:g<w.heap.size:=aAa hg
 by_cases hps:ps=[]
 ·subst hps
  have K:=AnyF.slices_SortFunc_none Tryz.sortP (some ⟨g,0,none⟩) cap (.func (.func 173) #[] #[.pointer (some ⟨bx,0,none⟩)]) w
  refine Calls.mono (show Calls Tryz.prog 172 _ w _ from K) ?_
  rintro e w' ⟨rfl,rfl⟩
  exact ⟨rfl,[],List.Perm.refl _,ho,(aAo (Below.refl _ _)).but _⟩
 obtain ⟨p0,hp0m⟩:=List.exists_mem_of_ne_nil ps hps
 have hp0:=hp p0 hp0m
 haveI:Inhabited {p:Nat×Nat // p.1<base.length}:=⟨⟨p0,hp0⟩⟩
 obtain ⟨d,hd0⟩:∃d:Array {p:Nat×Nat // p.1<base.length},d=(ps.attachWith (fun p=>p.1<base.length) hp).toArray:=⟨_,rfl⟩
 have hd:d.toList.map Subtype.val=ps:=by rw[hd0];exact List.attachWith_map_subtype_val _
 have hds:d.size=ps.length:=by rw[hd0];simp
 have hfl:d.toList.flatMap (fun x:{p:Nat×Nat // p.1<base.length}=>pairC x.1)=pairsV ps:=by
  rw[<-hd];unfold pairsV;rw[List.flatMap_map]
 have hH:HoldsK (fun x:{p:Nat×Nat // p.1<base.length}=>pairC x.1) 2 w g 0 d:=aSq (by decide:0<2) (fun _=>rfl) hg (by rw[hds,hfl];exact ht)
 have hcmp:CmpLays Tryz.prog 173 #[.pointer (some ⟨bx,0,none⟩)] (fun x:{p:Nat×Nat // p.1<base.length}=>pairC x.1) 2 (fun x y=>cmpP base x.1 y.1) g 0 d.size w:=by
  intro m os dk _ x y
  have hgr:=aHg (fun x:{p:Nat×Nat // p.1<base.length}=>pairC x.1) 2 w g 0 m dk os
  have hbw:Below w0.heap.size w0 (sortWorldK (fun x:{p:Nat×Nat // p.1<base.length}=>pairC x.1) 2 w g 0 m dk os):=hw.grown hgr hw.size (fun q hq=>by injection hq with hq;omega)
  obtain ⟨⟨p,p1⟩,hx⟩:=x
  obtain ⟨⟨q,q1⟩,hy⟩:=y
  have hcell:(sortWorldK (fun x:{p:Nat×Nat // p.1<base.length}=>pairC x.1) 2 w g 0 m dk os).cell? ⟨bx,0,none⟩=some (.slice A n c):=by
   have e:=hgr.block bx hbx (fun e=>hne e.symm)
   rw[<-h0]
   unfold World.cell?
   rw[e]
  exact bBh hb hbw hcell (Nat.lt_of_lt_of_le hbx hgr.size) hx hy
 have hO:SWO (ltOf fun x y:{p:Nat×Nat // p.1<base.length}=>cmpP base x.1 y.1):=swoP base Subtype.val
 have eg:∀args w,(callFunc 173 args).run Tryz.prog w=.ok (.enter 173 args) w:=enters_of Tryz.func173 (by kernel_rfl) rfl
 have K:=AnyQ.slices_SortFunc Tryz.sortP 2 Tryz.isAgg234 Tryz.sizeOf234 (fun x:{p:Nat×Nat // p.1<base.length}=>pairC x.1) (fun _=>rfl) (fun x=>bCq x.1) (fun x y=>cmpP base x.1 y.1) hO 173 #[.pointer (some ⟨bx,0,none⟩)] g 0 cap d w eg hcmp hH hgw (by rw[hds];omega)
 rw[hds] at K
 refine Calls.mono (show Calls Tryz.prog 172 _ w _ from K) ?_
 rintro e w' ⟨rfl,d',m,os,hperm,_,rfl⟩
 obtain ⟨hsz,_,hpm⟩:=hperm
 have hds':d'.size=ps.length:=hsz.trans hds
 obtain ⟨cur',hg',hcs',ht'⟩:=aOp (n:=m) (os:=os) (d:=d') (enc:=fun x:{p:Nat×Nat // p.1<base.length}=>pairC x.1) (by decide:0<2) (fun _=>rfl) hg (by rw[hds',hcs];omega)
 have hpl:(d'.toList.map Subtype.val).length=ps.length:=by rw[List.length_map,Array.length_toList,hds']
 refine ⟨rfl,d'.toList.map Subtype.val,?_,?_,aHg _ _ _ _ _ _ _ _⟩
 ·rw[<-hds',Array.extract_size,hds',<-hds,Array.extract_size] at hpm
  rw[<-hd]
  exact hpm.map _
 rw[hpl]
 refine ⟨by unfold pairsV;rw[aGe aSl,hpl],.inr ⟨g,cap,cur',rfl,hgB,hg',hnc,hcm,hcs'.trans hcs,?_⟩⟩
 rw[<-hds',ht']
 unfold pairsV
 rw[List.flatMap_map]
end Go.Proofs.YtohblmepajhpaaaGreatDoor
namespace Go.Proofs.YtohblmepajhpaaaGreatDoor
open Go.RowKit
theorem aEz {P:Program}{S:World->Prop}{a:Act}{w:World}{K:Act->World->Prop}{dst:Option Tmp}{t ty:TypeId}{q:Bool}{g:Option (Tmp×Bool)}
  (hK:S (w.alloc (.map #[] 0))/\K (a.put dst (.map (some w.heap.size))) (w.alloc (.map #[] 0))):effq P S ⟨q,dst,.makeMap t none,ty,g⟩ a w K:=by
 refine aRr (x:=⟨q,dst,.makeMap t none,ty,g⟩) (fun p af g=>?_) hK
 unfold execOp
 simp only[Option.map_none,run_makeMap,Sem.run_bind,Sem.run_pure,Result.andThen_ok]
theorem bFy {P:Program}{S:World->Prop}{a:Act} {w w':World}{K:Act->World->Prop}{dst:Option Tmp}{t ty:TypeId}{x:Operand}{q:Bool}{g:Option (Tmp×Bool)}{v:Value}
  (hr:∀(p:String) (af:Array Edge) (g:Option (Nat×Bool)),(execOp a.eval ⟨dst,.box t x,ty,p,af,g⟩).run P w=.ok (.value v) w') (hK:S w'/\K (a.put dst v) w'):effq P S ⟨q,dst,.box t x,ty,g⟩ a w K:=
 aRr (x:=⟨q,dst,.box t x,ty,g⟩) hr hK
theorem bBl (base side:List FV):fillG base side []=fun _ _=>none:=by
 funext x y;simp[fillG]
theorem aUa {w0 u:World}{m:Nat}{bs ss f t:Value}{is js:List Nat}{base side:List FV}{D:DataW Value}(hf:u.ownsRow w0.heap.size 3 1 f is.length (natsV is))(ht:u.ownsRow w0.heap.size 3 1 t js.length (natsV js))
  (hft:∀g,f.ownBlock=some g->t.ownBlock≠some g) (hm:MpQ u m 0 D fun _ _=>none) (hb:Below w0.heap.size w0 u) :
  Sr w0 (u.alloc (.cells #[bs,ss,f,t,.map (some m),.slice none 0 0] 231)) u.heap.size m bs ss is js [] (fillG base side [],0) (fun _ _=>False):=by
 have hba:Below u.heap.size u (u.alloc (.cells #[bs,ss,f,t,.map (some m),.slice none 0 0] 231)):=(Below.refl _ _).alloc (Nat.le_refl _) _
 refine ⟨f,t,.slice none 0 0,heap_alloc_new _ _,aAg hf hba,aAg ht hba,World.ownsRow_nil _ _ _ _,fun e=>?_,fun e=>?_,fun e=>(by cases e),hft,fun g _ e=>(by cases e),fun g _ e=>(by cases e),⟨0,D,by rw[bBl];exact hm.below hba,Nat.le_refl _⟩,hb.size,hb.trans (hba.mono hb.size),fun k ob h=>h.elim⟩
 ·have:=(hf.lt _ e).2;omega
 have:=(ht.lt _ e).2;omega
theorem aHi (base side:List FV):∀(is js:List Nat),(sameF base side is js).1.length+(sameF base side is js).2.1.length=is.length/\(sameF base side is js).2.2.length<=js.length
 | [],js=>by rw[sameF];exact ⟨rfl,Nat.le_refl _⟩
 | i::is,js=>by
  rw[sameF]
  cases hf:js.find? fun j=>decide (textAt side j=textAt base i) with
  | none=>
   have h:=aHi base side is js
   dsimp only
   rw[List.length_cons,List.length_cons]
   exact ⟨by omega,h.2⟩
  | some j=>
   have h:=aHi base side is (js.filter fun k=>decide (k≠j))
   dsimp only
   rw[List.length_cons,List.length_cons]
   exact ⟨by omega,Nat.le_trans h.2 (List.length_filter_le _ _)⟩
theorem aFv {l other:List FV}{i:Nat}(h:i∈loneF l other):i<l.length:=by
 rw[aKq] at h
 exact List.mem_range.1 (List.mem_filter.1 h).1
theorem aZi (l other:List FV):(loneF l other).Nodup:=by
 rw[aKq];exact List.nodup_range.filter _
theorem aVs (l other:List FV):(loneF l other).length<=l.length:=by
 rw[aKq];exact aTh _ _
theorem bBy (base side:List FV){L0 L1:List Nat}(h0:L0=loneF base side)(h1:L1=loneF side base):([]++(sameF base side L0 L1).1)++alikeF base side (sameF base side L0 L1).2.1.length (sameF base side L0 L1).2.1 (sameF base side L0 L1).2.2=pairsF base side:=by
 subst h0 h1;rfl
theorem aOw (base side:List FV):∀(n:Nat) (is js:List Nat),(alikeF base side n is js).length<=n
 | 0,_,_=>Nat.le_refl _
 | n+1,is,js=>by
  rw[alikeF]
  cases bestF base side is js with
  | none=>exact Nat.zero_le _
  | some p=>
   have:=aOw base side n (is.filter fun k=>decide (k≠p.1)) (js.filter fun k=>decide (k≠p.2))
   simp only[List.length_cons];omega
theorem aJn (base side:List FV):(pairsF base side).length<=base.length:=by
 have h1:=aHi base side (loneF base side) (loneF side base)
 have h2:=aOw base side (sameF base side (loneF base side) (loneF side base)).2.1.length (sameF base side (loneF base side) (loneF side base)).2.1 (sameF base side (loneF base side) (loneF side base)).2.2
 have h3:=aVs base side
 unfold pairsF
 dsimp only
 rw[List.length_append]
 omega
def pathAt (l:List FV)(i:Nat):ByteArray:=((l[i]?).map FV.path).getD ⟨#[]⟩
def renC (base side:List FV)(p:Nat×Nat):List Value:=[.string (pathAt base p.1),.string (pathAt side p.2)]
def RenamesIs (base side:List FV)(w:World)(e:Ending) (w':World):Prop:=
 ∃(L:List (Nat×Nat)) (v:Value),L.Perm (pairsF base side)/\e=.returned v/\w'.ownsRow w.heap.size 132 2 v L.length (L.flatMap (renC base side))/\Below w.heap.size w w'
theorem aEm {w:World} {base base':Nat}{e:TypeId}{size:Nat}{v:Value}{n:Nat}{xs:List Value}(h:w.ownsRow base e size v n xs)(hb:base'<=base):w.ownsRow base' e size v n xs:=
 ⟨h.1,h.2.imp id fun ⟨g,cap,cur,h1,h2,h3⟩=>⟨g,cap,cur,h1,Nat.le_trans hb h2,h3⟩⟩
theorem bHm:Elem Tryz.prog 81 132 2 32:=aBt (by kernel_rfl)
theorem bAk (a b:ByteArray)(w:World):(Instr.build 132 #[(0,.string a),(1,.string b)]).run Tryz.prog w=.ok (.agg #[.string a,.string b]) w:=by
 go_simp
theorem bIr (w:World)(g:Nat)(a b:ByteArray)(hg:g=w.heap.size):Rd (w.alloc (.cells #[.string a,.string b] 132)) (w.alloc (.cells #[.string a,.string b] 132)).heap.size 2 (some ⟨g,0,none⟩) 1 1 [.string a,.string b]:=by
 subst hg
 exact ⟨rfl,Nat.le_refl _,fun _=>⟨_,0,rfl,by simp,fun k u hu=>by
  rw[Nat.zero_add,World.cell?,heap_alloc_new]
  simpa using hu⟩⟩
theorem bAr (A B F T:Option Addr)(n ca m cb f fc t tc mp:Nat)(w:World) :
  (Instr.build 231 #[(0,.slice A n ca),(1,.slice B m cb),(2,.slice F f fc),(3,.slice T t tc),(4,.map (some mp))]).run Tryz.prog w=.ok (.agg #[.slice A n ca,.slice B m cb,.slice F f fc,.slice T t tc,.map (some mp),.slice none 0 0]) w:=by
 go_simp
theorem aUq {w:World}{A B:Option Addr}{n ca m cb:Nat}{base side:List FV}(hL:Lm w)(hn:n<=100000)(hm:m<=100000)(ha:RdF w w.heap.size A n ca base)(hs:RdF w w.heap.size B m cb side)
  (hbt:∀f∈base,f.text.size<=1000000) (hst:∀f∈side,f.text.size<=1000000) :
  Calls Tryz.prog 150 #[.slice A n ca,.slice B m cb] w (RenamesIs base side w):=by
 obtain ⟨W,eW⟩:∃W,W=w.alloc (.cells #[.slice A n ca] 29):=⟨_,rfl⟩
 have hW:Below w.heap.size w W:=by rw[eW];exact (Below.refl _ _).alloc (Nat.le_refl _) _
 have hsz:W.heap.size=w.heap.size+1:=by rw[eW];simp
 have hbx:W.heap[w.heap.size]? = some (.cells #[.slice A n ca] 29 (0,0)):=by rw[eW];exact heap_alloc_new _ _
 have HA:=hid (ha.to hW hW.size)
 have HS:=hid (hs.to hW hW.size)
 have HLM:=hid (hL.to hW)
 have HW:=hid hW
 have HBX:=hid hbx
 have HBT:=hid hbt
 have HST:=hid hst
 have HSZ:=hid hsz
 have hbw:w.heap.size<W.heap.size:=by omega
 clear ha hs hW hbx hsz hL hbt hst
 obtain ⟨L0,eL0⟩:∃L0,L0=loneF base side:=⟨_,rfl⟩
 obtain ⟨L1,eL1⟩:∃L1,L1=loneF side base:=⟨_,rfl⟩
 have HL0:=hid eL0
 have HL1:=hid eL1
 clear eL0 eL1
 have HND:Hid L0.Nodup:=by rw[HL0.out];exact hid (aZi _ _)
 have HI:Hid (∀i∈L0,i<base.length):=by rw[HL0.out];exact hid (fun i hi=>aFv hi)
 have HJ:Hid (∀i∈L1,i<side.length):=by rw[HL1.out];exact hid (fun i hi=>aFv hi)
 have hl0:L0.length<=100000:=by rw[HL0.out];have:=aVs base side;have:=HA.out.len;omega
 have hl1:L1.length<=100000:=by rw[HL1.out];have:=aVs side base;have:=HS.out.len;omega
 have HPA:Hid (∀p∈pairsF base side,p.1<base.length):=hid fun p hp=>aFv ((aDv base side).from_ p hp)
 have HPB:Hid (∀p∈pairsF base side,p.2<side.length):=hid fun p hp=>aFv ((aDv base side).into p hp)
 have HT2:Hid (Two W (.slice A n ca) (.slice B m cb) base side):=hid ⟨A,n,ca,B,m,cb,rfl,rfl,HA.out,HS.out,hn,hm⟩
 go_enter Tryz.func150,Tryz.ntmps150
 go_wp2
 rw[<-eW]
 clear eW
 generalize hbxn:w.heap.size=bx at *
 refine aAv (fun u=>Below W.heap.size W u) (.q 0 (.q 1 (.q 2 (.q 3 (.q 5 (.q 6 (.two 4 (.two 7 (.one 8 (.b 9 (.one 10 (.q 11 .leaf)))) 8 (.one 7 (.b 9 (.one 10 (.q 11 .leaf))))) 8 (.one 4 (.one 7 (.b 9 (.one 10 (.q 11 .leaf)))))))))))) mixed (by kernel_rfl) (Below.refl _ _).drew ?_
 intro Tp M Q hT hT' hM hQ
 have m0:M ⟨bx,0,none⟩=some (.slice A n ca):=hM _ _ fun w' hw=>by rw[Lib.cell_of_heap ((hw.block _ hbw).trans HBX.out)];rfl
 clear hM
 refine aDy ?_
 intro O hO
 have t0:=hO true 0
 have t1:=hO true 1
 have t2:=hO true 2
 have t3:=hO true 3
 have t5:=hO true 5
 have t6:=hO true 6
 have t9:=hO true 9
 have t11:=hO true 11
 have e4:=hO false 4
 have e7:=hO false 7
 have e8:=hO false 8
 have e10:=hO false 10
 simp only[qcmp] at t0 t1 t2 t3 t5 t6 t9 t11 e4 e7 e8 e10
 clear hO
 simp (maxSteps:=9^7) only[↓wt_q,↓aBb,t0,t1,t2,t3,t5,t6,e4,e8,↓qpre,aAb,aAe,aAc,m0]
 have REST:∀(u:World) (F T9:Option Addr) (fc tc mp:Nat),Hid (u.ownsRow W.heap.size 3 1 (.slice F L0.length fc) L0.length (natsV L0))->Hid (u.ownsRow W.heap.size 3 1 (.slice T9 L1.length tc) L1.length (natsV L1))->
   Hid (∀g,(Value.slice F L0.length fc).ownBlock=some g->(Value.slice T9 L1.length tc).ownBlock≠some g)->Hid (MpQ u mp 0 (.map []) fun _ _=>none)->Hid (W.heap.size<=mp)->Hid (Below W.heap.size W u)->
   wt Tryz.prog Tp M O Q (.b 9 (.one 10 (.q 11 .leaf))) ⟨#[Value.slice A n ca,Value.slice B m cb,Value.pointer (some ⟨bx,0,none⟩),undef,Value.slice none 0 0,undef,undef,undef,undef,Value.slice A n ca,Value.slice B m cb,Value.slice A n ca,Value.slice B m cb,Value.slice F L0.length fc,Value.slice B m cb,Value.slice A n ca,Value.slice T9 L1.length tc,Value.map (some mp),undef,undef,undef,undef,undef,undef,undef,undef,undef,undef,undef,undef,undef,undef,undef,undef,undef,undef,undef,undef,undef,undef,undef,undef,undef,undef,undef,undef,undef,undef,undef,undef,undef,undef,undef,undef,undef,undef,undef],[]⟩ u:=by
  intro u F T9 fc tc mp hf ht hft hmp hmlo hbu
  simp (maxSteps:=9^7) only[↓wt_b,t9]
  refine aBp rfl (fun w=>bAr _ _ _ _ _ _ _ _ _ _ _ _ _ w) ?_
  simp (maxSteps:=9^7) only[↓aAl,e10,aAb,aAc]
  have hba:Below u.heap.size u (u.alloc (.cells #[.slice A n ca,.slice B m cb,.slice F L0.length fc,.slice T9 L1.length tc,.map (some mp),.slice none 0 0] 231)):=(Below.refl _ _).alloc (Nat.le_refl _) _
  have HSR:=hid (aUa (base:=base) (side:=side) (bs:=.slice A n ca) (ss:=.slice B m cb) hf.out ht.out hft.out hmp.out hbu.out)
  have hb2:=hbu.out.trans (hba.mono hbu.out.size)
  refine bFy (v:=.pointer (some ⟨u.heap.size,0,none⟩)) (w':=u.alloc (.cells #[.slice A n ca,.slice B m cb,.slice F L0.length fc,.slice T9 L1.length tc,.map (some mp),.slice none 0 0] 231)) (fun p af g=>by
   unfold execOp
   go_simp) ⟨hT _ hb2,?_⟩
  have HB2:=hid hb2
  clear hf ht hft hmp hbu hba hb2
  generalize u.alloc (.cells #[.slice A n ca,.slice B m cb,.slice F L0.length fc,.slice T9 L1.length tc,.map (some mp),.slice none 0 0] 231)=V at *
  generalize u.heap.size=sb at *
  simp (maxSteps:=9^7) only[↓wt_q,t11,↓qpre,aAb,aAc]
  refine hQ _ _ ?_
  clear hQ hT hT' t0 t1 t2 t3 t5 t6 t9 t11 e4 e7 e8 e10 m0
  have HSL:=hid (aHi base side L0 L1)
  have HSK:=hid (aKz base side L0 L1 HND.out)
  have KS:=bHd HSR.out HT2.out (by omega) (by omega) (by simpa using by omega) HI.out HJ.out HND.out
  clear HSR
  go_wp2_with fail
  refine KS.mono ?_
  rintro e w2 ⟨rfl,hs2⟩
  clear KS
  have KA:=bCe hs2 HT2.out HLM.out hmlo.out (fun _ h=>h) HBT.out HST.out (by have:=HSL.out.1;omega) (by have:=HSL.out.2;omega) (by have:=HSL.out.1;simp only[List.nil_append];omega) (fun i hi=>HI.out i (HSK.out.2.1 i hi)) (fun j hj=>HJ.out j (HSK.out.2.2.1 j hj))
  clear hs2
  go_wp2_with fail
  refine KA.mono ?_
  rintro e w3 ⟨rfl,is',js',G',hs3⟩
  clear KA
  rw[bBy base side HL0.out HL1.out] at hs3
  obtain ⟨f9,t9',o9,hp9⟩:=hs3
  have HP9:=hid hp9
  have hbx3:=(hp9.bel.block _ hbw).trans HBX.out
  have c0:w3.cell? ⟨bx,0,none⟩=some (.slice A n ca):=by rw[Lib.cell_of_heap hbx3];rfl
  have KO:=bCj HA.out hp9.bel c0 (Nat.lt_of_lt_of_le hbw hp9.bel.size) hp9.o1 (fun e=>by have:=(hp9.o1.lt _ e).1;omega) (fun p hp=>HPA.out p hp) (by have:=aJn base side;have:=HA.out.len;omega)
  have c1:w3.cell? ⟨sb,5,none⟩=some o9:=by rw[Lib.cell_of_heap hp9.hs];rfl
  clear hp9 hbx3
  go_wp2_with fail
  refine KO.mono ?_
  rintro e w4 ⟨rfl,ps,hperm,ho4,hg4⟩
  have hb4:=HP9.out.bel.grown hg4 HP9.out.bel.size (fun g hg=>(HP9.out.o1.lt g hg).1)
  have hsb4:=(hg4.block sb (aAa HP9.out.hs) (fun e=>HP9.out.no e.symm)).trans HP9.out.hs
  have c2:w4.cell? ⟨sb,5,none⟩=some o9:=by rw[Lib.cell_of_heap hsb4];rfl
  obtain ⟨E,ec,rfl,hec⟩:=aAd ho4
  have HPM:=hid hperm
  have HRD:=hid (Rd.of_own ho4 hec)
  have HB4:=hid hb4
  clear KO c0 c1 hperm ho4 hg4 hb4 hsb4 HP9
  have hplen:ps.length<=100000:=by have:=HPM.out.length_eq;have:=aJn base side;have:=HA.out.len;omega
  go_wp2
  go_loopw[6,35] (fun out i wr=>∃k:Nat,k<=ps.length/\i=.int .i64 k/\Hid (Below w4.heap.size w4 wr)/\Hid (wr.ownsRow w4.heap.size 132 2 out k ((ps.take k).flatMap (renC base side)))) (fun _ i _=>ps.length-(intOf i).toNat)
  case atStart=>exact ⟨0,Nat.zero_le _,rfl,hid (Below.refl _ _),World.ownsRow_nil _ _ _ _⟩
  obtain ⟨k,hk,rfl,HBR,HO⟩:=hrel
  clear c2
  by_cases hlt:k<ps.length
  ·obtain ⟨g,og,p,rfl,hgb,hpk,hpm,hpc⟩:=T.rd_flat aSl (by omega) HRD.out rfl hlt
   have hxl:=HPA.out p (HPM.out.mem_iff.1 hpm)
   have hyl:=HPB.out p (HPM.out.mem_iff.1 hpm)
   rw[HA.out.len] at hxl
   rw[HS.out.len] at hyl
   obtain ⟨x,y⟩:=p
   obtain ⟨b0,o0,fx,rfl,hbb,hxb,_,p0,_,_⟩:=HA.out.get hxl
   obtain ⟨b1,o1,fy,rfl,hbb1,hys,_,q0,_,_⟩:=HS.out.get hyl
   have c0:=(HBR.out.cell (p:=⟨g,og+k*2,none⟩) hgb).trans (hpc 0 _ rfl)
   have c1:=(HBR.out.cell (p:=⟨g,og+k*2+1,none⟩) hgb).trans (hpc 1 _ rfl)
   have HBW:=hid (HB4.out.trans (HBR.out.mono HB4.out.size))
   have p1:=hid p0
   have q1:=hid q0
   have p0:=(HBW.out.cell (p:=⟨b0,o0+x*3,none⟩) hbb).trans p0
   have q0:=(HBW.out.cell (p:=⟨b1,o1+y*3,none⟩) hbb1).trans q0
   have HTK:=hid (show (ps.take (k+1)).flatMap (renC base side)=(ps.take k).flatMap (renC base side)++[.string fx.path,.string fy.path] by
    rw[List.take_add_one,hpk,List.flatMap_append];simp[renC,pathAt,hxb,hys])
   have HBL:=hid (And.intro hbb hbb1)
   clear hpc hpk hpm hxb hys hgb hbb hbb1
   obtain ⟨OA,oc,rfl,hoc⟩:=aAd HO.out
   have hba:Below wr.heap.size wr (wr.alloc (.cells #[.int .i64 (x:Int),.int .i64 (y:Int)] 234)):=(Below.refl _ _).alloc (Nat.le_refl _) _
   have HBR5:=hid (HBR.out.trans (hba.mono HBR.out.size))
   have HO5:=hid (aAg HO.out hba)
   have HIX:=hid (heap_alloc_new wr (.cells #[.int .i64 (x:Int),.int .i64 (y:Int)] 234))
   have HNE:Hid ((Value.slice OA k oc).ownBlock≠some wr.heap.size):=hid fun e=>Nat.lt_irrefl _ (HO.out.lt _ e).2
   have hbxw:bx<w4.heap.size:=Nat.lt_of_lt_of_le hbw HB4.out.size
   have HB4W:=hid HB4.out.size
   clear hba HO HBR
   go_wp2
   generalize wr.alloc (.cells #[.int .i64 (x:Int),.int .i64 (y:Int)] 234)=V5 at *
   refine aAh (fun w'=>Below w4.heap.size w4 w'/\w'.heap[wr.heap.size]? = some (.cells #[.int .i64 (x:Int),.int .i64 (y:Int)] 234 (0,0))) [(true,0),(true,1),(true,2),(true,3),(true,4),(true,5),(true,6),(true,7),(true,8),(true,9),(true,10),(true,11),(true,12),(false,13),(false,14),(false,15),(true,16)] mixed (by kernel_rfl) ⟨HBR5.out.drew,HIX.out⟩ ?_
   intro Tq M Q hT hT' hM hQ
   have m0:M ⟨wr.heap.size,0,none⟩=some (.int .i64 (x:Int)):=hM _ _ fun w' hw=>by rw[Lib.cell_of_heap hw.2];rfl
   have m1:M ⟨wr.heap.size,1,none⟩=some (.int .i64 (y:Int)):=hM _ _ fun w' hw=>by rw[Lib.cell_of_heap hw.2];rfl
   have m2:M ⟨bx,0,none⟩=some (.slice (some ⟨b0,o0,none⟩) n ca):=hM _ _ fun w' hw=>by rw[Lib.cell_of_heap ((hw.1.block _ hbxw).trans ((HB4.out.block _ hbw).trans HBX.out))];rfl
   have m3:M ⟨b0,o0+x*3,none⟩=some (.string fx.path):=hM _ _ fun w' hw=>((HB4.out.trans (hw.1.mono HB4W.out)).cell (p:=⟨b0,o0+x*3,none⟩) HBL.out.1).trans p1.out
   have m4:M ⟨b1,o1+y*3,none⟩=some (.string fy.path):=hM _ _ fun w' hw=>((HB4.out.trans (hw.1.mono HB4W.out)).cell (p:=⟨b1,o1+y*3,none⟩) HBL.out.2).trans q1.out
   clear hM
   simp only[qcmp]
   simp (maxSteps:=9^7) only[↓qpre,aAb,aAe,aAc,m0,m1,m2,m3,m4]
   (repeat refine And.intro (by first|omega|(unfold inI64;omega)) ?_)
   clear m0 m1 m2 m3 m4 p0 q0 c0 c1
   refine aBz rfl (bAk _ _ _) ⟨hT _ ⟨HBR5.out.drew,HIX.out⟩,?_⟩
   simp (maxSteps:=9^7) only[aAb,aAc]
   have hba6:Below V5.heap.size V5 (V5.drew.alloc (.cells #[.string fx.path,.string fy.path] 132)):=(Below.refl _ _).drew.alloc (Nat.le_refl _) _
   have HLI:=hid (bIr V5.drew V5.drew.heap.size fx.path fy.path rfl)
   have HBR6:=hid (HBR5.out.trans (hba6.mono HBR5.out.size))
   have HO6:=hid (aAg HO5.out hba6)
   have HIX6:=hid ((hba6.block _ (aAa HIX.out)).trans HIX.out)
   refine T.eff_lits (aMa bHm _ _ _) rfl ⟨hT _ ⟨HBR6.out,HIX6.out⟩,?_⟩
   simp (maxSteps:=9^7) only[aAb,aAc]
   clear HBR5 HO5 HIX hba6
   generalize V5.drew.alloc (.cells #[.string fx.path,.string fy.path] 132)=V6 at *
   refine aAw bHm (base:=w4.heap.size) (n:=k) rfl rfl HO6.out HLI.out (by intro u hu;simp at hu;rcases hu with rfl | rfl<;>rfl) (by unfold maxLen;omega) (by omega) HBR6.out.size ?_
   intro v7 V7 ho7 hg7 hv7
   obtain ⟨A7,c7,rfl,hc7⟩:=aAd ho7
   have HBR7:=hid (HBR6.out.grown hg7 HBR6.out.size (fun g hg=>(HO6.out.lt g hg).1))
   have HIX7:=hid ((hg7.block _ (aAa HIX6.out) (fun e=>HNE.out e.symm)).trans HIX6.out)
   refine ⟨hT _ ⟨HBR7.out,HIX7.out⟩,?_⟩
   simp (maxSteps:=9^7) only[↓qpre,aAb,aAc]
   refine hQ _ _ ?_
   have HO7:=hid ho7
   clear hQ hT hT' HBR6 HO6 HIX6 HIX7 HLI ho7 hg7 hv7
   go_wp2
   go_roundw
   case rel=>exact ⟨k+1,by omega,by go_num,HBR7,hid (by rw[HTK.out];exact HO7.out)⟩
   simp[intOf];omega
  have hkn:k=ps.length:=by omega
  subst hkn
  obtain ⟨OA,oc,rfl,hoc⟩:=aAd HO.out
  have HF:Hid (RenamesIs base side w (.returned (.slice OA ps.length oc)) wr):=hid ⟨ps,_,HPM.out,rfl,by
   have:=HO.out
   rw[List.take_of_length_le (Nat.le_refl _)] at this
   exact aEm this (by have:=HB4.out.size;omega),by rw[hbxn];exact HW.out.trans ((HB4.out.trans (HBR.out.mono HB4.out.size)).mono (by omega))⟩
  clear HO HBR
  go_wp2
  go_ret
  exact HF.out
 have B0:=hid (show Below W.heap.size W W.drew from (Below.refl _ _).drew)
 refine ⟨?_,?_⟩
 ·refine aAi (by kernel_rfl) (aHx hn hm (HA.out.to B0.out B0.out.size) (HS.out.to B0.out B0.out.size)) rfl rfl ?_
  rintro e u1 ⟨x0,rfl,ho1,hb1⟩
  rw[<-HL0.out] at ho1
  obtain ⟨F,fc,rfl,_⟩:=aAd ho1
  have B1:=hid (B0.out.trans (hb1.mono B0.out.size))
  have HF1:=hid (aEm ho1 B0.out.size)
  clear ho1 hb1
  refine ⟨_,rfl,hT _ B1.out,?_⟩
  simp (maxSteps:=9^7) only[↓aBb,e7,e8,aAb,aAc]
  refine ⟨?_,?_⟩
  ·refine aAi (by kernel_rfl) (aHx hm hn (HS.out.to B1.out B1.out.size) (HA.out.to B1.out B1.out.size)) rfl rfl ?_
   rintro e u2 ⟨x1,rfl,ho2,hb2⟩
   rw[<-HL1.out] at ho2
   obtain ⟨T9,tc,rfl,_⟩:=aAd ho2
   have B2:=hid (B1.out.trans (hb2.mono B1.out.size))
   have HF2:=hid (aAg HF1.out hb2)
   have HT2':=hid (aEm ho2 B1.out.size)
   have HFT:Hid (∀g,(Value.slice F L0.length fc).ownBlock=some g->(Value.slice T9 L1.length tc).ownBlock≠some g):=hid fun g h1 h2=>by have:=(HF1.out.lt g h1).2;have:=(ho2.lt g h2).1;omega
   clear ho2 hb2
   refine ⟨_,rfl,hT _ B2.out,?_⟩
   simp (maxSteps:=9^7) only[↓aAl,e8,aAb,aAc]
   have hb3:Below u2.heap.size u2 (u2.alloc (.map #[] 0)):=(Below.refl _ _).alloc (Nat.le_refl _) _
   have B3:=hid (B2.out.trans (hb3.mono B2.out.size))
   refine aEz ⟨hT _ B3.out,?_⟩
   exact REST _ _ _ _ _ _ (hid (aAg HF2.out hb3)) (hid (aAg HT2'.out hb3)) HFT (hid (MpQ.start u2)) (hid B2.out.size) B3
  have hb3:Below u1.heap.size u1 (u1.alloc (.map #[] 0)):=(Below.refl _ _).alloc (Nat.le_refl _) _
  have B3:=hid (B1.out.trans (hb3.mono B1.out.size))
  have HM3:=hid (MpQ.start u1)
  have HML:=hid B1.out.size
  have HF3:=hid (aAg HF1.out hb3)
  refine aEz ⟨hT _ B3.out,?_⟩
  simp (maxSteps:=9^7) only[↓aAl,e7,aAb,aAc]
  generalize u1.alloc (.map #[] 0)=u2 at *
  generalize u1.heap.size=mp at *
  refine aAi (by kernel_rfl) (aHx hm hn (HS.out.to B3.out B3.out.size) (HA.out.to B3.out B3.out.size)) rfl rfl ?_
  rintro e u3 ⟨x1,rfl,ho2,hb2⟩
  rw[<-HL1.out] at ho2
  obtain ⟨T9,tc,rfl,_⟩:=aAd ho2
  have B4:=hid (B3.out.trans (hb2.mono B3.out.size))
  have HFT:Hid (∀g,(Value.slice F L0.length fc).ownBlock=some g->(Value.slice T9 L1.length tc).ownBlock≠some g):=hid fun g h1 h2=>by have:=(HF3.out.lt g h1).2;have:=(ho2.lt g h2).1;omega
  refine ⟨_,rfl,hT _ B4.out,?_⟩
  exact REST _ _ _ _ _ _ (hid (aAg HF3.out hb2)) (hid (aEm ho2 B3.out.size)) HFT (hid (HM3.out.below hb2)) HML B4
 have hb3:Below W.drew.heap.size W.drew (W.drew.alloc (.map #[] 0)):=(Below.refl _ _).alloc (Nat.le_refl _) _
 have B3:=hid (B0.out.trans (hb3.mono B0.out.size))
 have HM3:=hid (MpQ.start W.drew)
 have HML:=hid B0.out.size
 refine aEz ⟨hT _ B3.out,?_⟩
 simp (maxSteps:=9^7) only[↓aAl,e4,aAb,aAc]
 generalize W.drew.alloc (.map #[] 0)=u2 at *
 generalize W.drew.heap.size=mp at *
 refine aAi (by kernel_rfl) (aHx hn hm (HA.out.to B3.out B3.out.size) (HS.out.to B3.out B3.out.size)) rfl rfl ?_
 rintro e u3 ⟨x0,rfl,ho1,hb1⟩
 rw[<-HL0.out] at ho1
 obtain ⟨F,fc,rfl,_⟩:=aAd ho1
 have B4:=hid (B3.out.trans (hb1.mono B3.out.size))
 have HF4:=hid (aEm ho1 B3.out.size)
 have HM4:=hid (HM3.out.below hb1)
 clear ho1 hb1
 refine ⟨_,rfl,hT _ B4.out,?_⟩
 simp (maxSteps:=9^7) only[↓aAl,e7,aAb,aAc]
 refine aAi (by kernel_rfl) (aHx hm hn (HS.out.to B4.out B4.out.size) (HA.out.to B4.out B4.out.size)) rfl rfl ?_
 rintro e u4 ⟨x1,rfl,ho2,hb2⟩
 rw[<-HL1.out] at ho2
 obtain ⟨T9,tc,rfl,_⟩:=aAd ho2
 have B5:=hid (B4.out.trans (hb2.mono B4.out.size))
 have HFT:Hid (∀g,(Value.slice F L0.length fc).ownBlock=some g->(Value.slice T9 L1.length tc).ownBlock≠some g):=hid fun g h1 h2=>by have:=(HF4.out.lt g h1).2;have:=(ho2.lt g h2).1;omega
 refine ⟨_,rfl,hT _ B5.out,?_⟩
 exact REST _ _ _ _ _ _ (hid (aAg HF4.out hb2)) (hid (aEm ho2 B4.out.size)) HFT (hid (HM4.out.below hb2)) HML B5
end Go.Proofs.YtohblmepajhpaaaGreatDoor
namespace Go.Proofs.YtohblmepajhpaaaGreatDoor
open Go.RowKit Go.ChangeMaps Go.MapKept
theorem aNl {es:Array MapEntry}{clock:Nat}{e:MapEntry}(h:∀x∈es.toList,x.born<clock)(he:e.born=clock):(es.push e).findIdx? (fun x=>(x.born:Int) == (clock:Int))=some es.size:=by
 rw[Array.findIdx?_push]
 have:es.findIdx? (fun x=>(x.born:Int) == (clock:Int))=none:=by
  rw[Array.findIdx?_eq_none_iff]
  intro x hx
  have:=h x (by simpa using hx)
  simp;omega
 rw[this]
 simp[he]
theorem aSk {es:Array MapEntry}{j q:Nat}{e:MapEntry}(hj:es[j]? = some e)(hq:e.born=q)(hn:(es.toList.map (·.born)).Nodup):es.findIdx? (fun x=>(x.born:Int) == (q:Int))=some j:=by
 subst hq
 obtain ⟨hlt,rfl⟩:=Array.getElem?_eq_some_iff.1 hj
 rw[Array.findIdx?_eq_some_iff_getElem]
 refine ⟨hlt,by simp,fun i hi=>?_⟩
 have hi2:i<es.size:=by omega
 have:=List.pairwise_iff_getElem.1 (List.nodup_iff_pairwise_ne.1 hn) i j (by simpa using hi2) (by simpa using hlt) hi
 simp at this ⊢
 omega
theorem aKo (es:Array MapEntry)(e:MapEntry)(f:MapEntry->MapEntry):(es.push e).modify es.size f=es.push (f e):=by
 apply Array.ext_getElem?
 intro i
 rw[Array.getElem?_modify,Array.getElem?_push,Array.getElem?_push]
 by_cases h:es.size=i
 ·subst h;simp
 rw[if_neg h,if_neg (fun q=>h q.symm),if_neg (fun q=>h q.symm)]
theorem aTu (es:Array MapEntry)(j:Nat)(f g:MapEntry->MapEntry):(es.modify j f).modify j g=es.modify j fun e=>g (f e):=by
 apply Array.ext_getElem?
 intro i
 rw[Array.getElem?_modify,Array.getElem?_modify,Array.getElem?_modify]
 by_cases h:j=i
 ·rw[if_pos h,if_pos h,if_pos h];cases es[i]?<;>rfl
 rw[if_neg h,if_neg h,if_neg h]
theorem aJx {P:Program}{t k e:TypeId}{R:Value->Option (DataW Value×List MemPlace)}{w:World}{b n:Nat}{D:DataW Value}(h:w.ownsMap P k R b n D)(K:Maps.Keyed P k)(ht:P.underlying t=some (.map k e)){z:Value}(hz:∀w,(zeroValue e).run P w=.ok z w)(hn:n<maxLen)
  {key val:Value} {kl:Lit} {d:DataW Value} {ps:List MemPlace} (hkey:keyOf P k key=some kl) (hv:R val=some (d,ps)) :
  ∃w1 w' v0 stamp,(Instr.mapEntry t (.map (some b)) key).run P w=.ok (.tuple #[v0,stamp]) w1/\(Instr.entryStore t (.map (some b)) stamp val).run P w1=.ok () w'/\w'.ownsMap P k R b (n+1) (D.put kl d)/\w.grownBy w' (some b)/\w.grownBy w1 (some b):=by
 obtain ⟨w',hr,ho,hg⟩:=h.update K ht hn hkey hv
 obtain ⟨es,clock,hb,F,hs,rfl⟩:=h
 rcases K.find w hkey es.toList F.keys with ⟨h1,h2⟩ | ⟨j,e0,h1,h2,h3⟩
 ·have e1:w'=setBlock w b (.map (es.push ⟨key,val,clock⟩) (clock+1)):=by
   have:=hr
   simp[Instr.mapUpdate,run_underlying ht,MapKept.run_getObj_map hb,K.check w false hkey,h1,MapKept.run_setObj_map _ hb,Result.andThen] at this
   rw[<-this];rfl
  refine ⟨setBlock w b (.map (es.push ⟨key,z,clock⟩) (clock+1)),w',z,goInt clock,?_,?_,ho,hg,?_⟩
  ·simp[Instr.mapEntry,run_underlying ht,MapKept.run_getObj_map hb,K.check w false hkey,h1,hz,MapKept.run_setObj_map _ hb,Result.andThen,setBlock]
  ·have hb1:=heap_setBlock_same hb (.map (es.push ⟨key,z,clock⟩) (clock+1))
   have hf:=aNl (e:=⟨key,z,clock⟩) F.stamped.1 rfl
   rw[e1]
   simp[Instr.entryStore,MapKept.run_getObj_map hb1,asInt,asIntOf,goInt,hf,MapKept.run_setObj_map _ hb1,Result.andThen]
   simp[setBlock,aKo]
  exact ⟨rfl,rfl,rfl,by simp[setBlock],fun i _ hi=>heap_setBlock_other hb _ (fun e=>hi (by rw[e]))⟩
 have hj:es[j]? = some e0:=by simpa using h2
 have e1:w'=setBlock w b (.map (es.modify j fun e=>{ e with key:=key,val:=val }) clock):=by
  have:=hr
  simp[Instr.mapUpdate,run_underlying ht,MapKept.run_getObj_map hb,K.check w false hkey,h1,hj,h3,K.stays w hkey,MapKept.run_setObj_map _ hb,Result.andThen] at this
  rw[<-this];rfl
 refine ⟨setBlock w b (.map (es.modify j fun e=>{ e with key:=key }) clock),w',e0.val,goInt e0.born,?_,?_,ho,hg,?_⟩
 ·simp[Instr.mapEntry,run_underlying ht,MapKept.run_getObj_map hb,K.check w false hkey,h1,hj,h3,K.stays w hkey,MapKept.run_setObj_map _ hb,Result.andThen,setBlock]
 ·have hb1:=heap_setBlock_same hb (.map (es.modify j fun e=>{ e with key:=key }) clock)
  have hf:(es.modify j fun e=>{ e with key:=key }).findIdx? (fun x=>(x.born:Int) == (e0.born:Int))=some j:=by
   have hj2:(es.modify j fun e=>{ e with key:=key })[j]? = some { e0 with key:=key }:=by rw[Array.getElem?_modify,if_pos rfl,hj];rfl
   have hn2:((es.modify j fun e=>{ e with key:=key }).toList.map (·.born)).Nodup:=by
    have:(es.modify j fun e=>{ e with key:=key }).toList.map (·.born)=es.toList.map (·.born):=by
     refine List.ext_getElem? fun i=>?_
     rw[List.getElem?_map,List.getElem?_map,Array.getElem?_toList,Array.getElem?_toList,Array.getElem?_modify]
     by_cases hij:j=i
     ·rw[if_pos hij];cases es[i]?<;>rfl
     rw[if_neg hij]
    rw[this];exact F.stamped.2.1
   exact aSk hj2 rfl hn2
  rw[e1]
  simp[Instr.entryStore,MapKept.run_getObj_map hb1,asInt,asIntOf,goInt,hf,MapKept.run_setObj_map _ hb1,Result.andThen]
  simp[setBlock,aTu]
 exact ⟨rfl,rfl,rfl,by simp[setBlock],fun i _ hi=>heap_setBlock_other hb _ (fun e=>hi (by rw[e]))⟩
end Go.Proofs.YtohblmepajhpaaaGreatDoor
namespace Go.Proofs.YtohblmepajhpaaaGreatDoor
open Go.RowKit
theorem wideT:(match Tryz.prog.underlying 216 with | some (.array _ _) | some (.struct _)=>true | _=>false)=true:=by kernel_rfl
theorem KT:Maps.Keyed Tryz.prog 216:=Maps.Keyed.of_law (deep_law_laid T.laidOut (m:=2) (by omega) (of_decide_eq_true (by kernel_rfl)) (by kernel_rfl) wideT)
theorem bBx:Tryz.prog.keyType 216=true:=by kernel_rfl
theorem cellsT:Tryz.prog.cellsOf 216=1:=by kernel_rfl
theorem keyT {x:ByteArray}(h:x.size<=maxLen):keyOf Tryz.prog 216 (.agg #[.string x])=some (klP x):=
 bEy Tryz.underlying216 rfl rfl rfl cellsT aSh Tryz.underlying9 bBx T.types_pos h
structure MpT (w:World) (b n:Nat) (D:DataW Value) (F:ByteArray->Option ByteArray):Prop where
 own:w.ownsMap Tryz.prog 216 Rv b n D
 at_:∀q:ByteArray,q.size<=maxLen->D.atKey (klP q) (.held (.string ⟨#[]⟩))=.held (.string ((F q).getD ⟨#[]⟩))
 has:∀q:ByteArray,q.size<=maxLen->Maps.has D (klP q)=(F q).isSome
theorem MpT.start (w:World):MpT (w.alloc (.map #[] 0)) w.heap.size 0 (.map []) (fun _=>none):=
 ⟨World.ownsMap_made _ _ _ _,fun _x _=>rfl,fun _x _=>rfl⟩
theorem MpT.put {w w':World}{b n:Nat}{D:DataW Value} {F F':ByteArray->Option ByteArray}{k v:ByteArray}(h:MpT w b n D F)(hk:k.size<=maxLen)
  (hown:w'.ownsMap Tryz.prog 216 Rv b (n+1) (D.put (klP k) (.held (.string v)))) (hF:∀x,F' x=if x=k then some v else F x) :
  MpT w' b (n+1) (D.put (klP k) (.held (.string v))) F':=by
 refine ⟨hown,fun x hx=>?_,fun x hx=>?_⟩
 ·by_cases e:x=k
  ·subst e
   rw[Maps.atKey_put_same h.own.isMap (aJs hk),hF,if_pos rfl];rfl
  rw[Maps.atKey_put_other (aOl hx hk e),h.at_ x hx,hF,if_neg e]
 by_cases e:x=k
 ·subst e
  rw[Maps.has_put_same h.own.isMap (aJs hk),hF,if_pos rfl];rfl
 rw[Maps.has_put_other (aOl hx hk e),h.has x hx,hF,if_neg e]
theorem MpT.kept {w w':World}{b n:Nat}{D:DataW Value}{F:ByteArray->Option ByteArray}{row:Option Nat}(h:MpT w b n D F)(hg:w.grownBy w' row)(hne:some b≠row):MpT w' b n D F:=
 ⟨h.own.kept hg hne,h.at_,h.has⟩
theorem MpT.below {w w':World}{b n:Nat}{D:DataW Value}{F:ByteArray->Option ByteArray}(h:MpT w b n D F)(hb:Below w.heap.size w w'):MpT w' b n D F:=
 h.kept (row:=none) ⟨hb.os,hb.tape,hb.output,hb.size,fun k hk _=>hb.block k hk⟩ (by simp)
theorem MpT.look {w:World}{b n:Nat}{D:DataW Value}{F:ByteArray->Option ByteArray}(h:MpT w b n D F){x:ByteArray}(hx:x.size<=maxLen) :
  (Instr.lookup 211 (.map (some b)) (.agg #[.string x]) true).run Tryz.prog w=.ok (.tuple #[.string ((F x).getD ⟨#[]⟩),.bool (F x).isSome]) w:=by
 obtain ⟨v,ps,hrun,hv⟩:=h.own.look_ok KT Tryz.underlying211 (Tryz.zeroValue9 w) (show Rv (.string ⟨#[]⟩)=some (.held (.string ⟨#[]⟩),[]) from rfl) (keyT hx)
 rw[h.at_ x hx] at hv
 rw[h.has x hx] at hrun
 have:v=.string ((F x).getD ⟨#[]⟩):=by
  have h1:(DataW.held v:DataW Value)=.held (.string ((F x).getD ⟨#[]⟩)):=by
   have:=hv
   simp only[Rv,Option.some.injEq,Prod.mk.injEq] at this
   exact this.1
  exact aGc h1
 rw[this] at hrun
 exact hrun
structure SetT (w:World) (b n:Nat) (D:DataW Value) (S:Bs->Bool):Prop where
 own:w.ownsMap Tryz.prog 216 (plainElem Tryz.prog 4) b n D
 at_:∀q:ByteArray,q.size<=maxLen->D.atKey (klP q) (.lit (.bool false))=.lit (.bool (S q.data.toList))
 has:∀q:ByteArray,q.size<=maxLen->Maps.has D (klP q)=S q.data.toList
theorem SetT.start (w:World):SetT (w.alloc (.map #[] 0)) w.heap.size 0 (.map []) (fun _=>false):=
 ⟨World.ownsMap_made _ _ _ _,fun x _=>by simp[DataW.atKey],fun x _=>rfl⟩
theorem SetT.put {w w':World}{b n:Nat}{D:DataW Value} {S S':Bs->Bool}{k:ByteArray}(h:SetT w b n D S)(hk:k.size<=maxLen)
  (hown:w'.ownsMap Tryz.prog 216 (plainElem Tryz.prog 4) b (n+1) (D.put (klP k) (.lit (.bool true)))) (hS:∀x,S' x=(S x || decide (k.data.toList=x))) :
  SetT w' b (n+1) (D.put (klP k) (.lit (.bool true))) S':=by
 refine ⟨hown,fun x hx=>?_,fun x hx=>?_⟩
 ·by_cases e:x=k
  ·subst e
   rw[Maps.atKey_put_same h.own.isMap (aJs hk),hS,decide_eq_true rfl,Bool.or_true]
  rw[Maps.atKey_put_other (aOl hx hk e),h.at_ x hx,hS,decide_eq_false (fun e2=>e (aCh e2.symm)),Bool.or_false]
 by_cases e:x=k
 ·subst e
  rw[Maps.has_put_same h.own.isMap (aJs hk),hS,decide_eq_true rfl,Bool.or_true]
 rw[Maps.has_put_other (aOl hx hk e),h.has x hx,hS,decide_eq_false (fun e2=>e (aCh e2.symm)),Bool.or_false]
theorem SetT.kept {w w':World}{b n:Nat}{D:DataW Value}{S:Bs->Bool}{row:Option Nat}(h:SetT w b n D S)(hg:w.grownBy w' row)(hne:some b≠row):SetT w' b n D S:=
 ⟨h.own.kept hg hne,h.at_,h.has⟩
theorem SetT.below {w w':World}{b n:Nat}{D:DataW Value}{S:Bs->Bool}(h:SetT w b n D S)(hb:Below w.heap.size w w'):SetT w' b n D S:=
 h.kept (row:=none) ⟨hb.os,hb.tape,hb.output,hb.size,fun k hk _=>hb.block k hk⟩ (by simp)
theorem SetT.look {w:World}{b n:Nat}{D:DataW Value}{S:Bs->Bool}(h:SetT w b n D S){x:ByteArray}(hx:x.size<=maxLen) :
  (Instr.lookup 212 (.map (some b)) (.agg #[.string x]) false).run Tryz.prog w=.ok (.bool (S x.data.toList)) w:=by
 obtain ⟨v,ps,hrun,hv⟩:=h.own.lookup KT Tryz.underlying212 (Tryz.zeroValue4 w) (boolT false) (keyT hx)
 rw[h.at_ x hx] at hv
 rw[aTl hv] at hrun
 exact hrun
end Go.Proofs.YtohblmepajhpaaaGreatDoor
