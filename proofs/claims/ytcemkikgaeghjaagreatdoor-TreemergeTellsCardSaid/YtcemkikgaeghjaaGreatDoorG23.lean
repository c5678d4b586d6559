/- Texts of the walks, together: Walks: cmp.Compare of strings, cmp.Or, Renames' order. Walk: Renames' order of pairs. Contracts of the library at this seat, laid by the shelf, in plain words. Renames' order of pairs is a strict weak order; the sort's worlds. Rows of structs in the sort's words. Walk: slices.SortFunc of the pairs. Walk: similar.Renames, up to the search's block. -/
import Derived.Shelf.SlSortCmp.NoneTotal
import Derived.Shelf.SlGeneric
import Derived.Test.YtcemkikgaeghjaaGreatDoorRows
import Derived.Test.YtcemkikgaeghjaaGreatDoorG22
set_option maxHeartbeats 8000000
set_option maxRecDepth 100000
open Go.Lib (hid)
namespace Go.Proofs.YtcemkikgaeghjaaGreatDoor
open Go.RowKit
def cmpS (a b:ByteArray):Int:=if Op.bytesLess a.toList b.toList=true then -1 else if (a.toList == b.toList)=true then 0 else 1
theorem aRh {a:ByteArray}{w:World}:Calls Tryz.prog 66 #[.string a] w fun e w'=>e=.returned (.bool false)/\w'=w:=by
 go_enter Tryz.func66,Tryz.ntmps66
 go_wp2
 go_ret
 exact ⟨by simp,rfl⟩
theorem aFx {a b:ByteArray}{w:World}:Calls Tryz.prog 31 #[.string a,.string b] w fun e w'=>e=.returned (.int .i64 (cmpS a b))/\w'=w:=by
 have k1:=@aRh a w
 have k2:=@aRh b w
 go_enter Tryz.func31,Tryz.ntmps31
 go_wp2_with fail
 refine k1.mono ?_
 rintro e w1 ⟨rfl,rfl⟩
 go_wp2_with fail
 refine k2.mono ?_
 rintro e w1 ⟨rfl,rfl⟩
 clear k1 k2
 cases h1:Op.bytesLess a.toList b.toList
 ·cases h2:a.toList == b.toList
  ·have HF:=hid (show cmpS a b=1 by unfold cmpS;rw[h1,h2];rfl)
   go_wp2
   go_ret
   exact ⟨by rw[HF.out];rfl,rfl⟩
  have HF:=hid (show cmpS a b=0 by unfold cmpS;rw[h1,h2];rfl)
  go_wp2
  go_ret
  exact ⟨by rw[HF.out];rfl,rfl⟩
 have HF:=hid (show cmpS a b=-1 by unfold cmpS;rw[h1];rfl)
 go_wp2
 go_ret
 exact ⟨by rw[HF.out];rfl,rfl⟩
def orI (x y:Int):Int:=if x=0 then y else x
theorem bHz {x y:Int}{g:Nat}{w:World}(h:w.heap[g]? = some (.cells #[.int .i64 x,.int .i64 y] 3 (0,0))) :
  Calls Tryz.prog 87 #[.slice (some ⟨g,0,none⟩) 2 2] w fun e w'=>e=.returned (.int .i64 (orI x y))/\w'=w:=by
 have c0:w.cell? ⟨g,0,none⟩=some (.int .i64 x):=by rw[Lib.cell_of_heap h];rfl
 have c1:w.cell? ⟨g,1,none⟩=some (.int .i64 y):=by rw[Lib.cell_of_heap h];rfl
 clear h
 go_enter Tryz.func87,Tryz.ntmps87
 go_wp2
 go_loopw[8] (fun i wr=>∃k:Nat,k<=2/\i=.int .i64 k/\Hid (wr=w)/\Hid (k=1->x=0)/\Hid (k=2->x=0/\y=0)) (fun i _=>2-(intOf i).toNat)
 case atStart=>exact ⟨0,by omega,rfl,hid rfl,hid (fun h=>by omega),hid (fun h=>by omega)⟩
 obtain ⟨k,hk,rfl,HW,H1,H2⟩:=hrel
 have c2:wr.cell? ⟨g,0,none⟩=some (.int .i64 x):=by rw[HW.out];exact c0
 have c3:wr.cell? ⟨g,1,none⟩=some (.int .i64 y):=by rw[HW.out];exact c1
 clear c0 c1
 rcases (show k=0\/k=1\/k=2 by omega) with rfl | rfl | rfl
 ·by_cases hx:x=0
  ·have e1:(x == 0)=true:=by rw[hx];rfl
   have HX:=hid hx
   clear hx
   go_wp2
   go_roundw
   case rel=>exact ⟨1,by omega,by go_num,HW,hid (fun _=>HX.out),hid (fun h=>by omega)⟩
   simp[intOf]
  have e1:(x == 0)=false:=beq_eq_false_iff_ne.2 hx
  have HX:=hid (show orI x y=x from if_neg hx)
  clear hx
  go_wp2
  go_ret
  exact ⟨by rw[HX.out];rfl,HW.out⟩
 ·have hx:=H1.out rfl
  by_cases hy:y=0
  ·have e1:(y == 0)=true:=by rw[hy];rfl
   have HX:=hid (And.intro hx hy)
   clear hx hy
   go_wp2
   go_roundw
   case rel=>exact ⟨2,by omega,by go_num,HW,hid (fun h=>by omega),hid (fun _=>HX.out)⟩
   simp[intOf]
  have e1:(y == 0)=false:=beq_eq_false_iff_ne.2 hy
  have HX:=hid (show orI x y=y from if_pos hx)
  clear hx hy
  go_wp2
  go_ret
  exact ⟨by rw[HX.out];rfl,HW.out⟩
 have HX:=hid (show orI x y=0 by unfold orI;rw[if_pos (H2.out rfl).1];exact (H2.out rfl).2)
 go_wp2
 go_ret
 exact ⟨by rw[HX.out];rfl,HW.out⟩
def cmpP (base:List FV)(x y:Nat×Nat):Int:=orI (cmpS (((base[x.1]?).map FV.path).getD ⟨#[]⟩) (((base[y.1]?).map FV.path).getD ⟨#[]⟩)) (Lib.compareInt (x.1:Int) (y.1:Int))
def GrowsI (v:Int)(u:World)(e:Ending) (w':World):Prop:=e=.returned (.int .i64 v)/\∃q os',w'=Sort.grow (u.drewN q) os'
theorem aXq {P:Program}{S:World->Prop}{a:Act} {w w':World}{K:Act->World->Prop}{dst:Option Tmp}{t ty:TypeId}{k:Nat}{parts:Array (Nat×Operand)}{q:Bool}{g:Option (Tmp×Bool)}{vs:Array (Nat×Value)}{v:Value}
  (hv:(parts.toList.map fun p=>(p.1,a.eval p.2)).toArray=vs) (hr:(Instr.buildSlice t k vs).run P w=.ok v w') (hK:S w'/\K (a.put dst v) w'):effq P S ⟨q,dst,.buildSlice t k parts,ty,g⟩ a w K:=by
 intro p af g
 have hv':(parts.map fun p=>(p.1,a.eval p.2))=vs:=by rw[<-hv];apply Array.toList_inj.1;simp
 unfold Oper.wp execOp
 simp only[hv',hr,Sem.run_bind,Sem.run_pure,Result.andThen_ok]
 exact hK
theorem grow3 (u:World)(a b c:Obj):(((u.alloc a).alloc b).drew).alloc c=Sort.grow (u.drewN 1) #[a,b,c]:=by
 have:((u.heap.push a).push b).push c=u.heap++#[a,b,c]:=by
  apply Array.toList_inj.1;simp
 unfold World.alloc World.drew World.drewN Sort.grow
 simp only[this]
theorem aZo {P:Program}{t e:TypeId}{bytes:Nat}(E:Elem P t e 1 bytes)(a b:Value)(ha:a.cells=#[a])(hb:b.cells=#[b])(w:World) :
  (Instr.buildSlice t 2 #[(0,a),(1,b)]).run P w=.ok (.slice (some ⟨w.heap.size,0,none⟩) 2 2) (w.alloc (.cells #[a,b] e)):=by
 obtain ⟨i,z,hi,hz,hsz,hby,hzs⟩:=E.row
 obtain ⟨z0,hzc⟩:∃z0,z.cells=#[z0]:=by
  have:=hzs
  match h:z.cells,this with
  | ⟨[z0]⟩,_=>exact ⟨z0,rfl⟩
 simp[Instr.buildSlice,run_underlying E.und,sizeOf,typeInfo,hi,hsz,zeroValue,hz,Instr.fill,ha,hb,hzc,newRow,show Array.range 2=#[0,1] from rfl]
theorem bAj {w0 u:World}{bx n c:Nat}{A:Option Addr}{base:List FV}{p q p1 q1:Nat}(hb:RdF w0 w0.heap.size A n c base)(hu:Below w0.heap.size w0 u)(h0:u.cell? ⟨bx,0,none⟩=some (.slice A n c))(hbx:bx<u.heap.size)(hp:p<base.length)(hq:q<base.length) :
  Calls Tryz.prog 86 #[.agg #[.int .i64 (p:Int),.int .i64 (p1:Int)],.agg #[.int .i64 (q:Int),.int .i64 (q1:Int)],.pointer (some ⟨bx,0,none⟩)] u (GrowsI (cmpP base (p,p1) (q,q1)) u):=by
 rw[hb.len] at hp hq
 obtain ⟨b0,o0,x,rfl,hbb,hx,_,p0,_,_⟩:=hb.get hp
 obtain ⟨b1,o1,y,e,hbb1,hy,_,q0,_,_⟩:=hb.get hq
 injection e with e
 injection e with e1 e2
 subst e1 e2
 replace p0:=(hu.cell (p:=⟨b0,o0+p*3,none⟩) hbb).trans p0
 replace q0:=(hu.cell (p:=⟨b0,o0+q*3,none⟩) hbb).trans q0
 have HC:=hid (show cmpP base (p,p1) (q,q1)=orI (cmpS x.path y.path) (Lib.compareInt p q) by unfold cmpP;rw[hx,hy];rfl)
 have hlt:=Nat.lt_of_lt_of_le hbb hu.size
 clear hx hy hb hu hbb hbb1
 obtain ⟨x,xe,xt⟩:=x
 obtain ⟨y,ye,yt⟩:=y
 dsimp only at p0 q0 HC
 rw[HC.out]
 clear HC
 obtain ⟨R,hR⟩:∃R,R=orI (cmpS x y) (Lib.compareInt p q):=⟨_,rfl⟩
 rw[<-hR]
 have HR:=hid hR
 clear hR
 go_enter Tryz.func86,Tryz.ntmps86
 go_wp2
 have hW:Below u.heap.size u ((u.alloc (.cells #[.int .i64 (p:Int),.int .i64 (p1:Int)] 128)).alloc (.cells #[.int .i64 (q:Int),.int .i64 (q1:Int)] 128)):=((Below.refl _ _).alloc (Nat.le_refl _) _).alloc (by simp) _
 have a0:=(hW.cell (p:=⟨b0,o0+p*3,none⟩) hlt).trans p0
 have a1:=(hW.cell (p:=⟨b0,o0+q*3,none⟩) hlt).trans q0
 have a2:=(hW.cell (p:=⟨bx,0,none⟩) hbx).trans h0
 have x0:((u.alloc (.cells #[.int .i64 (p:Int),.int .i64 (p1:Int)] 128)).alloc (.cells #[.int .i64 (q:Int),.int .i64 (q1:Int)] 128)).heap[u.heap.size]? = some (.cells #[.int .i64 (p:Int),.int .i64 (p1:Int)] 128 (0,0)):=by
  have h1:=heap_alloc_new u (.cells #[.int .i64 (p:Int),.int .i64 (p1:Int)] 128)
  exact (((Below.refl _ _).alloc (Nat.le_refl _) _).block _ (by simp)).trans h1
 have x1:((u.alloc (.cells #[.int .i64 (p:Int),.int .i64 (p1:Int)] 128)).alloc (.cells #[.int .i64 (q:Int),.int .i64 (q1:Int)] 128)).heap[u.heap.size+1]? = some (.cells #[.int .i64 (q:Int),.int .i64 (q1:Int)] 128 (0,0)):=by
  have:=heap_alloc_new (u.alloc (.cells #[.int .i64 (p:Int),.int .i64 (p1:Int)] 128)) (.cells #[.int .i64 (q:Int),.int .i64 (q1:Int)] 128)
  simpa using this
 have hb0:=Nat.lt_of_lt_of_le hlt hW.size
 have hbW:=Nat.lt_of_lt_of_le hbx hW.size
 have HEW:=hid (show ∀o:Obj,((((u.alloc (.cells #[.int .i64 (p:Int),.int .i64 (p1:Int)] 128)).alloc (.cells #[.int .i64 (q:Int),.int .i64 (q1:Int)] 128)).drew).alloc o)=Sort.grow (u.drewN 1) #[.cells #[.int .i64 (p:Int),.int .i64 (p1:Int)] 128,.cells #[.int .i64 (q:Int),.int .i64 (q1:Int)] 128,o] from fun o=>grow3 _ _ _ _)
 generalize hWe:(u.alloc (.cells #[.int .i64 (p:Int),.int .i64 (p1:Int)] 128)).alloc (.cells #[.int .i64 (q:Int),.int .i64 (q1:Int)] 128)=W at *
 clear hWe p0 q0 h0 hW
 refine aAd (fun w'=>Below W.heap.size W w') [(true,0),(true,1),(true,2),(true,3),(true,4),(true,5),(true,6),(true,7),(true,8),(true,9),(true,10),(true,11),(true,13),(true,14),(true,15),(true,16),(false,12),(false,17),(false,18),(false,19),(true,20)] mixed (by kernel_rfl) (Below.refl _ _).drew ?_
 intro Tp M Q hT hT' hM hQ
 have m0:M ⟨b0,o0+p*3,none⟩=some (.string x):=hM _ _ fun w' hw=>(hw.cell (p:=⟨b0,o0+p*3,none⟩) hb0).trans a0
 have m1:M ⟨b0,o0+q*3,none⟩=some (.string y):=hM _ _ fun w' hw=>(hw.cell (p:=⟨b0,o0+q*3,none⟩) hb0).trans a1
 have m2:M ⟨bx,0,none⟩=some (.slice (some ⟨b0,o0,none⟩) n c):=hM _ _ fun w' hw=>(hw.cell (p:=⟨bx,0,none⟩) hbW).trans a2
 have m3:M ⟨u.heap.size,0,none⟩=some (.int .i64 (p:Int)):=hM _ _ fun w' hw=>by rw[Lib.cell_of_heap ((hw.block _ (aAa x0)).trans x0)];rfl
 have m4:M ⟨u.heap.size+1,0,none⟩=some (.int .i64 (q:Int)):=hM _ _ fun w' hw=>by rw[Lib.cell_of_heap ((hw.block _ (aAa x1)).trans x1)];rfl
 clear hM
 simp only[qcmp]
 simp (maxSteps:=9^7) only[↓qpre,aAb,aAf,aAc,m0,m1,m2,m3,m4]
 (repeat refine ⟨by first|omega|(unfold inI64;omega),?_⟩)
 clear m0 m1 m2 m3 m4 a0 a1 a2 x0 x1
 refine aAh (by kernel_rfl) (aFx (a:=x) (b:=y)) rfl rfl ?_
 rintro e w1 ⟨rfl,rfl⟩
 refine ⟨_,rfl,hT _ (Below.refl _ _).drew,?_⟩
 simp (maxSteps:=9^7) only[aAb,aAc]
 refine aAh (by kernel_rfl) (Tryz.cmp_Compare_int (p:Int) (q:Int) W.drew) rfl rfl ?_
 rintro e w1 ⟨rfl,rfl⟩
 refine ⟨_,rfl,hT _ (Below.refl _ _).drew,?_⟩
 simp (maxSteps:=9^7) only[aAb,aAc]
 refine aXq rfl (aZo aXi _ _ rfl rfl _) ⟨hT _ ((Below.refl _ _).drew.alloc (Nat.le_refl _) _),?_⟩
 simp (maxSteps:=9^7) only[aAb,aAc]
 refine aAh (by kernel_rfl) (bHz (heap_alloc_new W.drew _)) rfl rfl ?_
 rintro e w1 ⟨rfl,rfl⟩
 refine ⟨_,rfl,hT _ ((Below.refl _ _).drew.alloc (Nat.le_refl _) _),?_⟩
 simp (maxSteps:=9^7) only[↓qpre,aAb,aAc]
 refine hQ _ _ ?_
 rw[HEW.out]
 have HG:Hid (GrowsI R u (.returned (.int .i64 (orI (cmpS x y) (Lib.compareInt p q)))) (Sort.grow (u.drewN 1) #[.cells #[.int .i64 (p:Int),.int .i64 (p1:Int)] 128,.cells #[.int .i64 (q:Int),.int .i64 (q1:Int)] 128,.cells #[.int .i64 (cmpS x y),.int .i64 (Lib.compareInt p q)] 3])):=hid ⟨by rw[HR.out],1,_,rfl⟩
 rw[<-HR.out] at HG ⊢
 clear hQ hT hT' HEW HR
 go_wp2
 go_ret
 exact HG.out
end Go.Proofs.YtcemkikgaeghjaaGreatDoor
namespace Go.Proofs.YtcemkikgaeghjaaGreatDoor
open Go.Shelf
def Tryz.sortP_ren:Go.Shelf.Ren:=⟨fun | 6=>85 | 15=>65 | 14=>126 | 28=>110 | 29=>111 | 20=>155 | 21=>156 | 22=>157 | 23=>158 | 24=>159 | 25=>160 | 26=>161 | 27=>162 | 46=>183 | 47=>143 | 48=>144 | 49=>184 | 50=>185 | 57=>198 | n=>n,fun | 22=>123 | 24=>128 | 25=>131 | 3=>3 | 39=>99 | 0=>0 | 53=>153 | 55=>155 | 4=>4 | 46=>146 | 45=>145 | 50=>150 | 5=>5 | 9=>9 | 66=>194 | 70=>198 | 76=>218 | 77=>219 | n=>n,fun | n=>n⟩
theorem Tryz.sortP:Go.Proofs.SlLaysF0.n6 Tryz.prog Tryz.sortP_ren:={
 mixed:=by kernel_rfl
 f6:=⟨Tryz.f85.name,by decide,Tryz.func85.trans (congrArg some (by kernel_rfl))⟩
 f14:=⟨Tryz.f126.name,by decide,Tryz.func126.trans (congrArg some (by kernel_rfl))⟩
 f15:=Tryz.func65.trans (congrArg some (by kernel_rfl))
 f20:=⟨Tryz.f155.name,by decide,Tryz.func155.trans (congrArg some (by kernel_rfl))⟩
 f21:=⟨Tryz.f156.name,by decide,Tryz.func156.trans (congrArg some (by kernel_rfl))⟩
 f22:=⟨Tryz.f157.name,by decide,Tryz.func157.trans (congrArg some (by kernel_rfl))⟩
 f23:=⟨Tryz.f158.name,by decide,Tryz.func158.trans (congrArg some (by kernel_rfl))⟩
 f24:=⟨Tryz.f159.name,by decide,Tryz.func159.trans (congrArg some (by kernel_rfl))⟩
 f25:=⟨Tryz.f160.name,by decide,Tryz.func160.trans (congrArg some (by kernel_rfl))⟩
 f26:=⟨Tryz.f161.name,by decide,Tryz.func161.trans (congrArg some (by kernel_rfl))⟩
 f27:=⟨Tryz.f162.name,by decide,Tryz.func162.trans (congrArg some (by kernel_rfl))⟩
 f28:=Tryz.func110.trans (congrArg some (by kernel_rfl))
 f29:=Tryz.func111.trans (congrArg some (by kernel_rfl))
 f46:=⟨Tryz.f183.name,by decide,Tryz.func183.trans (congrArg some (by kernel_rfl))⟩
 f47:=Tryz.func143.trans (congrArg some (by kernel_rfl))
 f48:=Tryz.func144.trans (congrArg some (by kernel_rfl))
 f49:=⟨Tryz.f184.name,by decide,Tryz.func184.trans (congrArg some (by kernel_rfl))⟩
 f50:=⟨Tryz.f185.name,by decide,Tryz.func185.trans (congrArg some (by kernel_rfl))⟩
 f57:=⟨Tryz.f198.name,by decide,Tryz.func198.trans (congrArg some (by kernel_rfl))⟩
 t0:=Tryz.underlying0
 a0:=Tryz.isAgg0
 z0:=Tryz.sizeOf0
 v0:=Tryz.zeroValue0
 t3:=Tryz.underlying3
 a3:=Tryz.isAgg3
 z3:=Tryz.sizeOf3
 v3:=Tryz.zeroValue3
 t4:=Tryz.underlying4
 a4:=Tryz.isAgg4
 z4:=Tryz.sizeOf4
 v4:=Tryz.zeroValue4
 t5:=Tryz.underlying5
 a5:=Tryz.isAgg5
 z5:=Tryz.sizeOf5
 v5:=Tryz.zeroValue5
 t9:=Tryz.underlying9
 a9:=Tryz.isAgg9
 z9:=Tryz.sizeOf9
 v9:=Tryz.zeroValue9
 t22:=Tryz.underlying123
 a22:=Tryz.isAgg123
 z22:=Tryz.sizeOf123
 v22:=Tryz.zeroValue123
 t25:=Tryz.underlying131
 a25:=Tryz.isAgg131
 z25:=Tryz.sizeOf131
 v25:=Tryz.zeroValue131
 t39:=Tryz.underlying99
 a39:=Tryz.isAgg99
 z39:=Tryz.sizeOf99
 v39:=Tryz.zeroValue99
 t45:=Tryz.underlying145
 a45:=Tryz.isAgg145
 z45:=Tryz.sizeOf145
 v45:=Tryz.zeroValue145
 t46:=Tryz.underlying146
 a46:=Tryz.isAgg146
 z46:=Tryz.sizeOf146
 v46:=Tryz.zeroValue146
 t50:=Tryz.underlying150
 a50:=Tryz.isAgg150
 z50:=Tryz.sizeOf150
 v50:=Tryz.zeroValue150
 t53:=Tryz.underlying153
 a53:=Tryz.isAgg153
 z53:=Tryz.sizeOf153
 v53:=Tryz.zeroValue153
 t55:=Tryz.underlying155
 a55:=Tryz.isAgg155
 z55:=Tryz.sizeOf155
 v55:=Tryz.zeroValue155
 t66:=Tryz.underlying194
 a66:=Tryz.isAgg194
 z66:=Tryz.sizeOf194
 v66:=Tryz.zeroValue194
 t70:=Tryz.underlying198
 a70:=Tryz.isAgg198
 z70:=Tryz.sizeOf198
 v70:=Tryz.zeroValue198
 t76:=Tryz.underlying218
 a76:=Tryz.isAgg218
 z76:=Tryz.sizeOf218
 v76:=Tryz.zeroValue218
 t77:=Tryz.underlying219
 a77:=Tryz.isAgg219
 z77:=Tryz.sizeOf219
 v77:=Tryz.zeroValue219 }
def Tryz.sortF_ren:Go.Shelf.Ren:=⟨fun | 6=>29 | 15=>65 | 14=>64 | 28=>110 | 29=>111 | 20=>102 | 21=>103 | 22=>104 | 23=>105 | 24=>106 | 25=>107 | 26=>108 | 27=>109 | 46=>142 | 47=>143 | 48=>144 | 49=>145 | 50=>146 | 57=>174 | n=>n,fun | 22=>22 | 24=>28 | 25=>60 | 3=>3 | 39=>99 | 0=>0 | 53=>153 | 55=>155 | 4=>4 | 46=>146 | 45=>145 | 50=>150 | 5=>5 | 9=>9 | 66=>194 | 70=>198 | 76=>218 | 77=>219 | n=>n,fun | n=>n⟩
theorem Tryz.sortF:Go.Proofs.SlLaysF0.n6 Tryz.prog Tryz.sortF_ren:={
 mixed:=by kernel_rfl
 f6:=⟨Tryz.f29.name,by decide,Tryz.func29.trans (congrArg some (by kernel_rfl))⟩
 f14:=⟨Tryz.f64.name,by decide,Tryz.func64.trans (congrArg some (by kernel_rfl))⟩
 f15:=Tryz.func65.trans (congrArg some (by kernel_rfl))
 f20:=⟨Tryz.f102.name,by decide,Tryz.func102.trans (congrArg some (by kernel_rfl))⟩
 f21:=⟨Tryz.f103.name,by decide,Tryz.func103.trans (congrArg some (by kernel_rfl))⟩
 f22:=⟨Tryz.f104.name,by decide,Tryz.func104.trans (congrArg some (by kernel_rfl))⟩
 f23:=⟨Tryz.f105.name,by decide,Tryz.func105.trans (congrArg some (by kernel_rfl))⟩
 f24:=⟨Tryz.f106.name,by decide,Tryz.func106.trans (congrArg some (by kernel_rfl))⟩
 f25:=⟨Tryz.f107.name,by decide,Tryz.func107.trans (congrArg some (by kernel_rfl))⟩
 f26:=⟨Tryz.f108.name,by decide,Tryz.func108.trans (congrArg some (by kernel_rfl))⟩
 f27:=⟨Tryz.f109.name,by decide,Tryz.func109.trans (congrArg some (by kernel_rfl))⟩
 f28:=Tryz.func110.trans (congrArg some (by kernel_rfl))
 f29:=Tryz.func111.trans (congrArg some (by kernel_rfl))
 f46:=⟨Tryz.f142.name,by decide,Tryz.func142.trans (congrArg some (by kernel_rfl))⟩
 f47:=Tryz.func143.trans (congrArg some (by kernel_rfl))
 f48:=Tryz.func144.trans (congrArg some (by kernel_rfl))
 f49:=⟨Tryz.f145.name,by decide,Tryz.func145.trans (congrArg some (by kernel_rfl))⟩
 f50:=⟨Tryz.f146.name,by decide,Tryz.func146.trans (congrArg some (by kernel_rfl))⟩
 f57:=⟨Tryz.f174.name,by decide,Tryz.func174.trans (congrArg some (by kernel_rfl))⟩
 t0:=Tryz.underlying0
 a0:=Tryz.isAgg0
 z0:=Tryz.sizeOf0
 v0:=Tryz.zeroValue0
 t3:=Tryz.underlying3
 a3:=Tryz.isAgg3
 z3:=Tryz.sizeOf3
 v3:=Tryz.zeroValue3
 t4:=Tryz.underlying4
 a4:=Tryz.isAgg4
 z4:=Tryz.sizeOf4
 v4:=Tryz.zeroValue4
 t5:=Tryz.underlying5
 a5:=Tryz.isAgg5
 z5:=Tryz.sizeOf5
 v5:=Tryz.zeroValue5
 t9:=Tryz.underlying9
 a9:=Tryz.isAgg9
 z9:=Tryz.sizeOf9
 v9:=Tryz.zeroValue9
 t22:=Tryz.underlying22
 a22:=Tryz.isAgg22
 z22:=Tryz.sizeOf22
 v22:=Tryz.zeroValue22
 t25:=Tryz.underlying60
 a25:=Tryz.isAgg60
 z25:=Tryz.sizeOf60
 v25:=Tryz.zeroValue60
 t39:=Tryz.underlying99
 a39:=Tryz.isAgg99
 z39:=Tryz.sizeOf99
 v39:=Tryz.zeroValue99
 t45:=Tryz.underlying145
 a45:=Tryz.isAgg145
 z45:=Tryz.sizeOf145
 v45:=Tryz.zeroValue145
 t46:=Tryz.underlying146
 a46:=Tryz.isAgg146
 z46:=Tryz.sizeOf146
 v46:=Tryz.zeroValue146
 t50:=Tryz.underlying150
 a50:=Tryz.isAgg150
 z50:=Tryz.sizeOf150
 v50:=Tryz.zeroValue150
 t53:=Tryz.underlying153
 a53:=Tryz.isAgg153
 z53:=Tryz.sizeOf153
 v53:=Tryz.zeroValue153
 t55:=Tryz.underlying155
 a55:=Tryz.isAgg155
 z55:=Tryz.sizeOf155
 v55:=Tryz.zeroValue155
 t66:=Tryz.underlying194
 a66:=Tryz.isAgg194
 z66:=Tryz.sizeOf194
 v66:=Tryz.zeroValue194
 t70:=Tryz.underlying198
 a70:=Tryz.isAgg198
 z70:=Tryz.sizeOf198
 v70:=Tryz.zeroValue198
 t76:=Tryz.underlying218
 a76:=Tryz.isAgg218
 z76:=Tryz.sizeOf218
 v76:=Tryz.zeroValue218
 t77:=Tryz.underlying219
 a77:=Tryz.isAgg219
 z77:=Tryz.sizeOf219
 v77:=Tryz.zeroValue219 }
end Go.Proofs.YtcemkikgaeghjaaGreatDoor
namespace Go.Proofs.YtcemkikgaeghjaaGreatDoor
open Go.RowKit Go.Sort
theorem aGm (a b:ByteArray):cmpS a b<0↔a.data.toList<b.data.toList:=by
 unfold cmpS
 rw[aNx]
 by_cases h:a.data.toList<b.data.toList
 ·simp[h]
 simp only[h,decide_false,Bool.false_eq_true,if_false,iff_false]
 split<;>omega
theorem aTg (a b:ByteArray):cmpS a b=0↔a.data.toList=b.data.toList:=by
 unfold cmpS
 rw[aNx]
 by_cases h:a.data.toList<b.data.toList
 ·simp only[h,decide_true,if_true]
  constructor
  ·intro h2;omega
  intro h2;rw[h2] at h;exact absurd h (List.lt_irrefl _)
 simp only[h,decide_false,Bool.false_eq_true,if_false]
 rw[Lib.toList_data,Lib.toList_data]
 by_cases h2:a.data.toList=b.data.toList
 ·simp[h2]
 rw[if_neg (by simpa using h2)]
 constructor
 ·intro h3;omega
 intro h3;exact absurd h3 h2
def keyB (base:List FV)(x:Nat×Nat):List UInt8×Nat:=((((base[x.1]?).map FV.path).getD ⟨#[]⟩).data.toList,x.1)
def ltK (x y:List UInt8×Nat):Prop:=x.1<y.1\/(x.1=y.1/\x.2<y.2)
theorem aPw (base:List FV)(x y:Nat×Nat):cmpP base x y<0↔ltK (keyB base x) (keyB base y):=by
 unfold cmpP orI ltK keyB
 dsimp only
 generalize ((base[x.1]?).map FV.path).getD ⟨#[]⟩=a
 generalize ((base[y.1]?).map FV.path).getD ⟨#[]⟩=b
 by_cases h:cmpS a b=0
 ·rw[if_pos h]
  have h2:=(aTg a b).1 h
  rw[h2]
  have:Lib.compareInt (x.1:Int) (y.1:Int)<0↔x.1<y.1:=by
   unfold Lib.compareInt
   split
   ·constructor<;>intro<;>omega
   split<;>(constructor<;>intro<;>omega)
  rw[this]
  constructor
  ·intro h3;exact .inr ⟨rfl,h3⟩
  rintro (h3 | ⟨_,h3⟩)
  ·exact absurd h3 (List.lt_irrefl _)
  exact h3
 rw[if_neg h,aGm]
 constructor
 ·exact .inl
 rintro (h3 | ⟨h3,_⟩)
 ·exact h3
 exact absurd ((aTg a b).2 h3) h
theorem bGo {x y:List UInt8×Nat}(h1:¬ltK x y)(h2:¬ltK y x):x=y:=by
 unfold ltK at h1 h2
 have e:x.1=y.1:=by
  rcases Std.lt_trichotomy x.1 y.1 with h | h | h
  ·exact absurd (.inl h) h1
  ·exact h
  exact absurd (.inl h) h2
 have e2:x.2=y.2:=by
  rcases Nat.lt_trichotomy x.2 y.2 with h | h | h
  ·exact absurd (.inr ⟨e,h⟩) h1
  ·exact h
  exact absurd (.inr ⟨e.symm,h⟩) h2
 exact Prod.ext e e2
theorem aXp (x:List UInt8×Nat):¬ltK x x:=by
 rintro (h | ⟨_,h⟩)
 ·exact List.lt_irrefl _ h
 omega
theorem aTs {x y z:List UInt8×Nat}(h1:ltK x y)(h2:ltK y z):ltK x z:=by
 rcases h1 with h1 | ⟨e1,h1⟩<;>rcases h2 with h2 | ⟨e2,h2⟩
 ·exact .inl (List.lt_trans h1 h2)
 ·exact .inl (e2▸h1)
 ·exact .inl (e1▸h2)
 exact .inr ⟨e1.trans e2,by omega⟩
theorem swoP (base:List FV) {α:Type}(f:α->Nat×Nat):SWO (ltOf fun x y:α=>cmpP base (f x) (f y)) where
 irrefl x:=by unfold ltOf;rw[decide_eq_false];rw[aPw];exact aXp _
 trans x y z h1 h2:=by
  unfold ltOf at *
  rw[decide_eq_true_iff,aPw] at *
  exact aTs h1 h2
 ntrans x y z h1 h2:=by
  unfold ltOf at *
  rw[decide_eq_false_iff_not,aPw] at *
  intro h3
  by_cases h4:ltK (keyB base (f y)) (keyB base (f x))
  ·exact h2 (aTs h4 h3)
  rw[bGo h1 h4] at h3
  exact h2 h3
theorem aHe {α:Type} [Inhabited α] (enc:α->List Value)(k:Nat)(w:World)(blk off n:Nat)(d:Array α)(os:Array Obj):w.grownBy (sortWorldK enc k w blk off n d os) (some blk):=by
 refine ⟨rfl,rfl,rfl,?_,fun i hi hne=>?_⟩
 ·simp[sortWorldK,putRowK,putRow,mapBlock,Sort.grow,Sort.ahead]
 have hne':¬blk=i:=fun e=>hne (by rw[e])
 simp only[sortWorldK,putRowK,putRow,mapBlock,Sort.grow,Sort.ahead]
 rw[Array.getElem?_append_left (by simpa using hi),Array.getElem?_modify,if_neg hne']
theorem flat_get {α:Type}{enc:α->List Value}{k:Nat}(hk:∀x,(enc x).length=k):∀{l:List α}{i c:Nat}{x:α},l[i]? = some x->c<k->(l.flatMap enc)[i*k+c]? = (enc x)[c]?
 | [],i,c,x,h,_=>by cases h
 | a::l,0,c,x,h,hc=>by
  cases h
  rw[List.flatMap_cons,Nat.zero_mul,Nat.zero_add,List.getElem?_append_left (by rw[hk];exact hc)]
 | a::l,i+1,c,x,h,hc=>by
  have h':l[i]? = some x:=h
  rw[List.flatMap_cons,List.getElem?_append_right (by rw[hk,Nat.add_mul,Nat.one_mul];omega),hk,show (i+1)*k+c-k=i*k+c by rw[Nat.add_mul,Nat.one_mul];omega]
  exact flat_get hk h' hc
theorem aGq {α:Type}{enc:α->List Value}{k:Nat}(hk:∀x,(enc x).length=k):∀l:List α,(l.flatMap enc).length=l.length*k
 | []=>by simp
 | a::l=>by rw[List.flatMap_cons,List.length_append,hk,aGq hk l,List.length_cons,Nat.add_mul,Nat.one_mul];omega
theorem aXd {α:Type} [Inhabited α] {enc:α->List Value}{k:Nat}(h0:0<k)(hk:∀x,(enc x).length=k)(d:Array α):flatK enc k d=(d.toList.flatMap enc).toArray:=by
 apply Array.toList_inj.1
 refine List.ext_getElem? fun t=>?_
 by_cases ht:t<d.size*k
 ·have hi:t / k<d.size:=Nat.div_lt_of_lt_mul (by rw[Nat.mul_comm];exact ht)
  have hc:t % k<k:=Nat.mod_lt _ h0
  have e:t / k*k+t % k=t:=by rw[Nat.mul_comm];exact Nat.div_add_mod t k
  have hx:d.toList[t / k]? = some d[t / k]!:=by
   rw[getElem!_pos d (t / k) hi];simp[hi]
  have h1:=flat_get hk hx hc
  rw[e] at h1
  have h2:=get_flatK enc k d t ht
  rw[getElem!_pos _ _ (by rw[size_flatK];exact ht)] at h2
  show _=(d.toList.flatMap enc)[t]?
  rw[List.getElem?_eq_getElem (by simpa using ht),h1]
  rw[List.getElem?_eq_getElem (by rw[hk];exact hc)]
  congr 1
  rw[Array.getElem_toList,h2,getElem!_pos _ _ (by rw[hk];exact hc)]
 rw[List.getElem?_eq_none (by simpa using Nat.le_of_not_lt ht),List.getElem?_eq_none (show (d.toList.flatMap enc).length<=t by rw[aGq hk,Array.length_toList];exact Nat.le_of_not_lt ht)]
theorem aRf {α:Type} [Inhabited α] {enc:α->List Value}{k:Nat}(h0:0<k)(hk:∀x,(enc x).length=k){w:World}{g:Nat}{cur:Array Value}{T:TypeId}{d:Array α}(hg:w.heap[g]? = some (.cells cur T (0,0)))
  (ht:cur.toList.take (d.size*k)=d.toList.flatMap enc):HoldsK enc k w g 0 d:=by
 unfold HoldsK
 intro j hj
 rw[size_flatK] at hj
 refine ⟨?_,aAi hg⟩
 rw[Nat.zero_add,aXd h0 hk,cell_of_row w _ _ _ _ _ hg]
 have h1:(d.toList.flatMap enc)[j]? = cur.toList[j]?:=by rw[<-ht,List.getElem?_take_of_lt hj]
 have h2:j<(d.toList.flatMap enc).length:=by rw[aGq hk];simpa using hj
 rw[getElem!_pos _ _ (by simpa using h2)]
 rw[List.getElem?_eq_getElem h2] at h1
 simpa using h1.symm
theorem aPq {α:Type} [Inhabited α] {enc:α->List Value}{k:Nat}(h0:0<k)(hk:∀x,(enc x).length=k){w:World}{g n:Nat}{cur:Array Value}{T:TypeId}{d:Array α}{os:Array Obj}(hg:w.heap[g]? = some (.cells cur T (0,0)))(hs:d.size*k<=cur.size) :
  ∃cur',(sortWorldK enc k w g 0 n d os).heap[g]? = some (.cells cur' T (0,0))/\cur'.size=cur.size/\cur'.toList.take (d.size*k)=d.toList.flatMap enc:=by
 have hlt:g<w.heap.size:=aAa hg
 refine ⟨putCells id 0 (flatK enc k d) cur,?_,by simp[putCells],?_⟩
 ·simp only[sortWorldK,putRowK,putRow,mapBlock,Sort.grow,Sort.ahead]
  rw[Array.getElem?_append_left (by simpa using hlt),Array.getElem?_modify,if_pos rfl,hg]
  rfl
 refine List.ext_getElem? fun t=>?_
 by_cases ht:t<d.size*k
 ·have h2:t<(d.toList.flatMap enc).length:=by rw[aGq hk];simpa using ht
  have h3:t<cur.size:=Nat.lt_of_lt_of_le ht hs
  rw[List.getElem?_take_of_lt ht,List.getElem?_eq_getElem h2,Array.getElem?_toList]
  simp only[putCells,Array.getElem?_mapIdx,Array.getElem?_eq_getElem h3,Option.map_some,Nat.zero_le,true_and,Nat.zero_add,size_flatK,ht,if_true,Nat.sub_zero,id]
  congr 1
  rw[aXd h0 hk,getElem!_pos _ _ (by simpa using h2)]
  simp
 rw[List.getElem?_eq_none (by rw[List.length_take];omega),List.getElem?_eq_none (by rw[aGq hk,Array.length_toList];omega)]
theorem aSz (x:Nat×Nat):(pairC x).length=2:=rfl
theorem bDl (x:Nat×Nat):∀v∈pairC x,v.oneCell'=true:=by
 intro v hv
 simp only[pairC,List.mem_cons,List.mem_nil_iff,or_false] at hv
 rcases hv with rfl | rfl<;>rfl
def SortedPs (w0 w:World)(v:Value)(ps:List (Nat×Nat))(e:Ending) (w':World):Prop:=
 e=.returned (.tuple #[])/\∃ps':List (Nat×Nat),ps'.Perm ps/\w'.ownsRow w0.heap.size 128 2 v ps'.length (pairsV ps')/\w.grownBy w' v.ownBlock
theorem bDr {w0 w:World}{bx n c:Nat}{A:Option Addr}{base:List FV}{v:Value}{ps:List (Nat×Nat)}(hb:RdF w0 w0.heap.size A n c base)(hw:Below w0.heap.size w0 w)(h0:w.cell? ⟨bx,0,none⟩=some (.slice A n c))(hbx:bx<w.heap.size)
  (ho:w.ownsRow w0.heap.size 128 2 v ps.length (pairsV ps)) (hne:v.ownBlock≠some bx) (hp:∀p∈ps,p.1<base.length) (hl:ps.length<=100000) :
  Calls Tryz.prog 85 #[v,.func (.func 86) #[] #[.pointer (some ⟨bx,0,none⟩)]] w (SortedPs w0 w v ps):=by
 rcases ho.2 with ⟨rfl,hl0⟩ | ⟨g,cap,cur,rfl,hgB,hg,hnc,hcm,hcs,ht⟩
 ·have:ps=[]:=List.length_eq_zero_iff.1 hl0
  subst this
  have K:=AnyF.slices_SortFunc_none Tryz.sortP none 0 (.func (.func 86) #[] #[.pointer (some ⟨bx,0,none⟩)]) w
  refine Calls.mono (show Calls Tryz.prog 85 _ w _ from K) ?_
  rintro e w' ⟨rfl,rfl⟩
  exact ⟨rfl,[],List.Perm.refl _,ho,(aAr (Below.refl _ _)).but _⟩
 have hgw:g<w.heap.size:=aAa hg
 by_cases hps:ps=[]
 ·subst hps
  have K:=AnyF.slices_SortFunc_none Tryz.sortP (some ⟨g,0,none⟩) cap (.func (.func 86) #[] #[.pointer (some ⟨bx,0,none⟩)]) w
  refine Calls.mono (show Calls Tryz.prog 85 _ w _ from K) ?_
  rintro e w' ⟨rfl,rfl⟩
  exact ⟨rfl,[],List.Perm.refl _,ho,(aAr (Below.refl _ _)).but _⟩
 obtain ⟨p0,hp0m⟩:=List.exists_mem_of_ne_nil ps hps
 have hp0:=hp p0 hp0m
 haveI:Inhabited {p:Nat×Nat // p.1<base.length}:=⟨⟨p0,hp0⟩⟩
 obtain ⟨d,hd0⟩:∃d:Array {p:Nat×Nat // p.1<base.length},d=(ps.attachWith (fun p=>p.1<base.length) hp).toArray:=⟨_,rfl⟩
 have hd:d.toList.map Subtype.val=ps:=by rw[hd0];exact List.attachWith_map_subtype_val _
 have hds:d.size=ps.length:=by rw[hd0];simp
 have hfl:d.toList.flatMap (fun x:{p:Nat×Nat // p.1<base.length}=>pairC x.1)=pairsV ps:=by
  rw[<-hd];unfold pairsV;rw[List.flatMap_map]
 have hH:HoldsK (fun x:{p:Nat×Nat // p.1<base.length}=>pairC x.1) 2 w g 0 d:=aRf (by decide:0<2) (fun _=>rfl) hg (by rw[hds,hfl];exact ht)
 have hcmp:CmpLays Tryz.prog 86 #[.pointer (some ⟨bx,0,none⟩)] (fun x:{p:Nat×Nat // p.1<base.length}=>pairC x.1) 2 (fun x y=>cmpP base x.1 y.1) g 0 d.size w:=by
  intro m os dk _ x y
  have hgr:=aHe (fun x:{p:Nat×Nat // p.1<base.length}=>pairC x.1) 2 w g 0 m dk os
  have hbw:Below w0.heap.size w0 (sortWorldK (fun x:{p:Nat×Nat // p.1<base.length}=>pairC x.1) 2 w g 0 m dk os):=hw.grown hgr hw.size (fun q hq=>by injection hq with hq;omega)
  obtain ⟨⟨p,p1⟩,hx⟩:=x
  obtain ⟨⟨q,q1⟩,hy⟩:=y
  have hcell:(sortWorldK (fun x:{p:Nat×Nat // p.1<base.length}=>pairC x.1) 2 w g 0 m dk os).cell? ⟨bx,0,none⟩=some (.slice A n c):=by
   have e:=hgr.block bx hbx (fun e=>hne e.symm)
   rw[<-h0]
   unfold World.cell?
   rw[e]
  exact bAj hb hbw hcell (Nat.lt_of_lt_of_le hbx hgr.size) hx hy
 have hO:SWO (ltOf fun x y:{p:Nat×Nat // p.1<base.length}=>cmpP base x.1 y.1):=swoP base Subtype.val
 have eg:∀args w,(callFunc 86 args).run Tryz.prog w=.ok (.enter 86 args) w:=enters_of Tryz.func86 (by kernel_rfl) rfl
 have K:=AnyQ.slices_SortFunc Tryz.sortP 2 Tryz.isAgg128 Tryz.sizeOf128 (fun x:{p:Nat×Nat // p.1<base.length}=>pairC x.1) (fun _=>rfl) (fun x=>bDl x.1) (fun x y=>cmpP base x.1 y.1) hO 86 #[.pointer (some ⟨bx,0,none⟩)] g 0 cap d w eg hcmp hH hgw (by rw[hds];omega)
 rw[hds] at K
 refine Calls.mono (show Calls Tryz.prog 85 _ w _ from K) ?_
 rintro e w' ⟨rfl,d',m,os,hperm,_,rfl⟩
 obtain ⟨hsz,_,hpm⟩:=hperm
 have hds':d'.size=ps.length:=hsz.trans hds
 obtain ⟨cur',hg',hcs',ht'⟩:=aPq (n:=m) (os:=os) (d:=d') (enc:=fun x:{p:Nat×Nat // p.1<base.length}=>pairC x.1) (by decide:0<2) (fun _=>rfl) hg (by rw[hds',hcs];omega)
 have hpl:(d'.toList.map Subtype.val).length=ps.length:=by rw[List.length_map,Array.length_toList,hds']
 refine ⟨rfl,d'.toList.map Subtype.val,?_,?_,aHe _ _ _ _ _ _ _ _⟩
 ·rw[<-hds',Array.extract_size,hds',<-hds,Array.extract_size] at hpm
  rw[<-hd]
  exact hpm.map _
 rw[hpl]
 refine ⟨by unfold pairsV;rw[aGq aSz,hpl],.inr ⟨g,cap,cur',rfl,hgB,hg',hnc,hcm,hcs'.trans hcs,?_⟩⟩
 rw[<-hds',ht']
 unfold pairsV
 rw[List.flatMap_map]
end Go.Proofs.YtcemkikgaeghjaaGreatDoor
namespace Go.Proofs.YtcemkikgaeghjaaGreatDoor
open Go.RowKit
theorem aFs {P:Program}{S:World->Prop}{a:Act}{w:World}{K:Act->World->Prop}{dst:Option Tmp}{t ty:TypeId}{q:Bool}{g:Option (Tmp×Bool)}
  (hK:S (w.alloc (.map #[] 0))/\K (a.put dst (.map (some w.heap.size))) (w.alloc (.map #[] 0))):effq P S ⟨q,dst,.makeMap t none,ty,g⟩ a w K:=by
 refine aOy (x:=⟨q,dst,.makeMap t none,ty,g⟩) (fun p af g=>?_) hK
 unfold execOp
 simp only[Option.map_none,run_makeMap,Sem.run_bind,Sem.run_pure,Result.andThen_ok]
theorem bFp {P:Program}{S:World->Prop}{a:Act} {w w':World}{K:Act->World->Prop}{dst:Option Tmp}{t ty:TypeId}{x:Operand}{q:Bool}{g:Option (Tmp×Bool)}{v:Value}
  (hr:∀(p:String) (af:Array Edge) (g:Option (Nat×Bool)),(execOp a.eval ⟨dst,.box t x,ty,p,af,g⟩).run P w=.ok (.value v) w') (hK:S w'/\K (a.put dst v) w'):effq P S ⟨q,dst,.box t x,ty,g⟩ a w K:=
 aOy (x:=⟨q,dst,.box t x,ty,g⟩) hr hK
theorem bAy (base side:List FV):fillG base side []=fun _ _=>none:=by
 funext x y;simp[fillG]
theorem aVn {w0 u:World}{m:Nat}{bs ss f t:Value}{is js:List Nat}{base side:List FV}{D:DataW Value}(hf:u.ownsRow w0.heap.size 3 1 f is.length (natsV is))(ht:u.ownsRow w0.heap.size 3 1 t js.length (natsV js))
  (hft:∀g,f.ownBlock=some g->t.ownBlock≠some g) (hm:MpQ u m 0 D fun _ _=>none) (hb:Below w0.heap.size w0 u) :
  Sr w0 (u.alloc (.cells #[bs,ss,f,t,.map (some m),.slice none 0 0] 125)) u.heap.size m bs ss is js [] (fillG base side [],0) (fun _ _=>False):=by
 have hba:Below u.heap.size u (u.alloc (.cells #[bs,ss,f,t,.map (some m),.slice none 0 0] 125)):=(Below.refl _ _).alloc (Nat.le_refl _) _
 refine ⟨f,t,.slice none 0 0,heap_alloc_new _ _,aAe hf hba,aAe ht hba,World.ownsRow_nil _ _ _ _,fun e=>?_,fun e=>?_,fun e=>(by cases e),hft,fun g _ e=>(by cases e),fun g _ e=>(by cases e),⟨0,D,by rw[bAy];exact hm.below hba,Nat.le_refl _⟩,hb.size,hb.trans (hba.mono hb.size),fun k ob h=>h.elim⟩
 ·have:=(hf.lt _ e).2;omega
 have:=(ht.lt _ e).2;omega
theorem aIh (base side:List FV):∀(is js:List Nat),(sameF base side is js).1.length+(sameF base side is js).2.1.length=is.length/\(sameF base side is js).2.2.length<=js.length
 | [],js=>by rw[sameF];exact ⟨rfl,Nat.le_refl _⟩
 | i::is,js=>by
  rw[sameF]
  cases hf:js.find? fun j=>decide (textAt side j=textAt base i) with
  | none=>
   have h:=aIh base side is js
   dsimp only
   rw[List.length_cons,List.length_cons]
   exact ⟨by omega,h.2⟩
  | some j=>
   have h:=aIh base side is (js.filter fun k=>decide (k≠j))
   dsimp only
   rw[List.length_cons,List.length_cons]
   exact ⟨by omega,Nat.le_trans h.2 (List.length_filter_le _ _)⟩
theorem aBy {l other:List FV}{i:Nat}(h:i∈loneF l other):i<l.length:=by
 rw[aEa] at h
 exact List.mem_range.1 (List.mem_filter.1 h).1
theorem aZc (l other:List FV):(loneF l other).Nodup:=by
 rw[aEa];exact List.nodup_range.filter _
theorem aVe (l other:List FV):(loneF l other).length<=l.length:=by
 rw[aEa];exact aTh _ _
theorem bAq (base side:List FV){L0 L1:List Nat}(h0:L0=loneF base side)(h1:L1=loneF side base):([]++(sameF base side L0 L1).1)++alikeF base side (sameF base side L0 L1).2.1.length (sameF base side L0 L1).2.1 (sameF base side L0 L1).2.2=pairsF base side:=by
 subst h0 h1;rfl
theorem aPr (base side:List FV):∀(n:Nat)(is js:List Nat),(alikeF base side n is js).length<=n
 | 0,_,_=>Nat.le_refl _
 | n+1,is,js=>by
  rw[alikeF]
  cases bestF base side is js with
  | none=>exact Nat.zero_le _
  | some p=>
   have:=aPr base side n (is.filter fun k=>decide (k≠p.1)) (js.filter fun k=>decide (k≠p.2))
   simp only[List.length_cons];omega
theorem aJq (base side:List FV):(pairsF base side).length<=base.length:=by
 have h1:=aIh base side (loneF base side) (loneF side base)
 have h2:=aPr base side (sameF base side (loneF base side) (loneF side base)).2.1.length (sameF base side (loneF base side) (loneF side base)).2.1 (sameF base side (loneF base side) (loneF side base)).2.2
 have h3:=aVe base side
 unfold pairsF
 dsimp only
 rw[List.length_append]
 omega
end Go.Proofs.YtcemkikgaeghjaaGreatDoor
