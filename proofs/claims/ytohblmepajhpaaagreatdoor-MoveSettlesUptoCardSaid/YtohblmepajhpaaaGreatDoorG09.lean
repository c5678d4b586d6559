/- Texts of the walks, together: Chunks in memory; the texts as far as they were gone through. Commits in memory: rows of them, of markers, of what is settled; what stays while some blocks are written. -/
import Derived.Test.YtohblmepajhpaaaGreatDoorG05
import Derived.Test.YtohblmepajhpaaaGreatDoorG06
import Derived.Test.YtohblmepajhpaaaGreatDoorG07
import Derived.Test.YtohblmepajhpaaaGreatDoorG08
namespace Go.Proofs.YtohblmepajhpaaaGreatDoor
open Go.RowKit
def Keeps (l:List Nat) (w w':World):Prop:=w.heap.size<=w'.heap.size/\∀p:Addr,p.block<w.heap.size->p.block∉l->w'.cell? p=w.cell? p
theorem Keeps.refl (l:List Nat)(w:World):Keeps l w w:=⟨Nat.le_refl _,fun _ _ _=>rfl⟩
theorem Keeps.trans {l:List Nat}{a b c:World}(h:Keeps l a b)(k:Keeps l b c):Keeps l a c:=
 ⟨Nat.le_trans h.1 k.1,fun p hp hl=>(k.2 p (Nat.lt_of_lt_of_le hp h.1) hl).trans (h.2 p hp hl)⟩
theorem Keeps.of_below {l:List Nat} {w w':World}(h:Below w.heap.size w w'):Keeps l w w':=⟨h.size,fun _p hp _=>h.cell hp⟩
theorem Keeps.grown {l:List Nat} {w w':World}{row:Option Nat}(h:w.grownBy w' row)(hr:∀g,row=some g->g∈l):Keeps l w w':=
 ⟨h.size,fun p hp hl=>World.cell?_of_block (h.block p.block hp (fun e=>hl (hr _ e.symm)))⟩
theorem Keeps.drew {l:List Nat} {w w':World}(h:Keeps l w w'):Keeps l w w'.drew:=h
theorem aAq (w:World)(g j:Nat)(u:Value):w.grownBy (w.setCell ⟨g,j,none⟩ u) (some g):=⟨rfl,rfl,rfl,by simp,fun k _ hk=>heap_setCell_other _ _ k _ (fun e=>hk (by rw[e]))⟩
def RdO (w:World)(l:List Nat)(A:Option Addr)(c:Nat)(xs:List ByteArray):Prop:=Rd w w.heap.size 1 A xs.length c (xs.map .string)/\∀a,A=some a->0<xs.length->a.block∉l
theorem RdO.keep {w w':World}{l:List Nat}{A:Option Addr}{c:Nat}{xs:List ByteArray}(h:RdO w l A c xs)(hk:Keeps l w w'):RdO w' l A c xs:=by
 refine ⟨⟨h.1.len,h.1.cap,fun h0=>?_⟩,h.2⟩
 obtain ⟨b,o,rfl,hb,hc⟩:=h.1.at_ h0
 refine ⟨b,o,rfl,Nat.lt_of_lt_of_le hb hk.1,fun j u hu=>?_⟩
 rw[hk.2 ⟨b,o+j,none⟩ hb (h.2 ⟨b,o,none⟩ rfl h0)]
 exact hc j u hu
theorem RdO.less {w:World}{l m:List Nat}{A:Option Addr}{c:Nat}{xs:List ByteArray}(h:RdO w l A c xs)(hm:∀b∈m,b∈l\/w.heap.size<=b):RdO w m A c xs:=by
 refine ⟨h.1,fun a ha h0 hmem=>?_⟩
 rcases hm _ hmem with h1 | h1
 ·exact h.2 a ha h0 h1
 obtain ⟨b,o,e,hb,_⟩:=h.1.at_ h0
 rw[ha] at e;injection e with e;subst e
 exact Nat.not_lt.2 h1 hb
def KIn (w:World)(l:List Nat)(k:KV)(cs:List Value):Prop:=
 ∃A0 c0 A1 c1 A2 c2,cs=[.int .i64 k.kind,.slice A0 k.base.length c0,.slice A1 k.ours.length c1,.slice A2 k.theirs.length c2]/\RdO w l A0 c0 k.base/\RdO w l A1 c1 k.ours/\RdO w l A2 c2 k.theirs
theorem KIn.keep {w w':World}{l:List Nat}{k:KV}{cs:List Value}(h:KIn w l k cs)(hk:Keeps l w w'):KIn w' l k cs:=by
 obtain ⟨A0,c0,A1,c1,A2,c2,e,h0,h1,h2⟩:=h
 exact ⟨A0,c0,A1,c1,A2,c2,e,h0.keep hk,h1.keep hk,h2.keep hk⟩
theorem KIn.less {w:World}{l m:List Nat}{k:KV}{cs:List Value}(h:KIn w l k cs)(hm:∀b∈m,b∈l\/w.heap.size<=b):KIn w m k cs:=by
 obtain ⟨A0,c0,A1,c1,A2,c2,e,h0,h1,h2⟩:=h
 exact ⟨A0,c0,A1,c1,A2,c2,e,h0.less hm,h1.less hm,h2.less hm⟩
theorem KIn.len {w:World}{l:List Nat}{k:KV}{cs:List Value}(h:KIn w l k cs):cs.length=4/\∀u∈cs,u.oneCell'=true:=by
 obtain ⟨A0,c0,A1,c1,A2,c2,rfl,_⟩:=h
 exact ⟨rfl,fun u hu=>by simp at hu;rcases hu with rfl | rfl | rfl | rfl<;>rfl⟩
def KIns (w:World)(l:List Nat):List KV->List (List Value)->Prop
 | [],[]=>True
 | k::L,cs::H=>KIn w l k cs/\KIns w l L H
 | _,_=>False
theorem KIns.keep {w w':World}{l:List Nat}(hk:Keeps l w w'):∀{L:List KV} {H:List (List Value)},KIns w l L H->KIns w' l L H
 | [],[],_=>trivial
 | _::_,_::_,h=>⟨h.1.keep hk,KIns.keep hk h.2⟩
theorem KIns.less {w:World}{l m:List Nat}(hm:∀b∈m,b∈l\/w.heap.size<=b):∀{L:List KV} {H:List (List Value)},KIns w l L H->KIns w m L H
 | [],[],_=>trivial
 | _::_,_::_,h=>⟨h.1.less hm,KIns.less hm h.2⟩
theorem KIns.snoc {w:World}{l:List Nat}:∀{L:List KV} {H:List (List Value)} {k:KV} {cs:List Value},KIns w l L H->KIn w l k cs->KIns w l (L++[k]) (H++[cs])
 | [],[],_,_,_,hk=>⟨hk,trivial⟩
 | _::_,_::_,_,_,h,hk=>⟨h.1,KIns.snoc h.2 hk⟩
theorem KIns.get {w:World}{l:List Nat}:∀{L:List KV} {H:List (List Value)} {i:Nat} {k:KV},KIns w l L H->L[i]? = some k->∃cs,H[i]? = some cs/\KIn w l k cs
 | [],[],i,k,_,hk=>by simp at hk
 | _::_,cs::_,0,k,h,hk=>by simp at hk;subst hk;exact ⟨cs,rfl,h.1⟩
 | _::_,_::_,i+1,k,h,hk=>by simp at hk;obtain ⟨cs,h1,h2⟩:=KIns.get h.2 hk;exact ⟨cs,by simpa using h1,h2⟩
def obs (v:Value):List Nat:=match v.ownBlock with | some g=>[g] | none=>[]
theorem aEq {v:Value}{g:Nat}(h:v.ownBlock=some g):g∈obs v:=by unfold obs;rw[h];simp
theorem aFr {v:Value}{g:Nat}(h:g∈obs v):v.ownBlock=some g:=by
 unfold obs at h
 split at h
 ·rename_i k hk;simp at h;subst h;exact hk
 cases h
structure TX (w0 w:World) (tb:Nat) (x y z:Value) (b o t:Nat) (L:List KV):Prop where
 ex:∃(out:Value) (H:List (List Value)),w.heap[tb]? = some (.cells #[x,y,z,.int .i64 b,.int .i64 o,.int .i64 t,out] 278 (0,0))/\w.ownsRow w0.heap.size 143 4 out L.length H.flatten/\out.ownBlock≠some tb/\KIns w (tb::obs out) L H
 lo:w0.heap.size<=tb
 bel:Below w0.heap.size w0 w
theorem TX.hi {w0 w:World}{tb:Nat}{x y z:Value}{b o t:Nat}{L:List KV}(h:TX w0 w tb x y z b o t L):tb<w.heap.size:=by
 obtain ⟨_,_,h1,_⟩:=h.ex
 rcases Nat.lt_or_ge tb w.heap.size with h2 | h2
 ·exact h2
 simp[Array.getElem?_eq_none h2] at h1
theorem aBr {P:Program}{S:World->Prop}{a:Act}{w:World}{K:Act->World->Prop}{dst:Option Tmp}{t ty:TypeId}{q:Bool}{g:Option (Tmp×Bool)}{z:Value}(hz:∀w,(zeroValue t).run P w=.ok z w)
  (hK:S (w.alloc (.cells z.cells t))/\K (a.put dst (.pointer (some ⟨w.heap.size,0,none⟩))) (w.alloc (.cells z.cells t))):effq P S ⟨q,dst,.alloc t,ty,g⟩ a w K:=by
 refine aRr (fun p af g=>?_) hK
 unfold execOp
 simp[Instr.alloc,newVar,newRow,hz,Sem.run_bind,Result.andThen_ok]
theorem aNo {P:Program}{S:World->Prop}{a:Act}{w:World}{K:Act->World->Prop}{dst:Option Tmp}{t ty:TypeId}{x y:Operand}{q:Bool}{g:Option (Tmp×Bool)}{b o:Nat}{u0 u1:Value}(hi:(P.info? t).map (·.size)=some 2)
  (hx:a.eval x=.pointer (some ⟨b,o,none⟩)) (hy:a.eval y=.agg #[u0,u1]) (hc0:(w.cell? ⟨b,o,none⟩).isSome=true) (hc1:(w.cell? ⟨b,o+1,none⟩).isSome=true)
  (hf0:w.frozen? ⟨b,o,none⟩=false) (hf1:w.frozen? ⟨b,o+1,none⟩=false) (h0:u0.oneCell'=true) (h1:u1.oneCell'=true)
  (hK:S ((w.setCell ⟨b,o,none⟩ u0).setCell ⟨b,o+1,none⟩ u1)/\K (a.put dst undef) ((w.setCell ⟨b,o,none⟩ u0).setCell ⟨b,o+1,none⟩ u1)) :
  effq P S ⟨q,dst,.store t x y,ty,g⟩ a w K:=by
 intro p af g
 have hc:∀j,j<[u0,u1].length->(w.cell? ⟨b,o+0+j,none⟩).isSome=true:=by
  intro j hj
  have:j=0\/j=1:=by simp at hj;omega
  rcases this with rfl | rfl
  ·exact hc0
  exact hc1
 have hf:∀j,j<[u0,u1].length->w.frozen? ⟨b,o+0+j,none⟩=false:=by
  intro j hj
  have:j=0\/j=1:=by simp at hj;omega
  rcases this with rfl | rfl
  ·exact hf0
  exact hf1
 have hr:=run_storeCells_cells (P:=P) b o [u0,u1] 0 w hc hf (fun u hu=>by simp at hu;rcases hu with rfl | rfl<;>assumption)
 obtain ⟨i,hi1,hi2⟩:=Option.map_eq_some_iff.1 hi
 unfold Oper.wp execOp
 have hst:(storeVar t ⟨b,o,none⟩ (.agg #[u0,u1])).run P w=.ok () ((w.setCell ⟨b,o,none⟩ u0).setCell ⟨b,o+1,none⟩ u1):=by
  simp[storeVar,sizeOf,typeInfo,hi1,hi2,Value.cells,hr,World.setCells]
 simp only[hx,hy,Instr.storeAt,Instr.sureAddr,Sem.run_bind,Sem.run_pure,Result.andThen_ok,hst]
 exact hK
theorem aBz {P:Program}{S:World->Prop}{a:Act}{w:World}{K:Act->World->Prop}{dst:Option Tmp}{t ty:TypeId}{parts:Array (Nat×Operand)}{q:Bool}{g:Option (Tmp×Bool)}{vs:Array (Nat×Value)}{v:Value}
  (hv:(parts.toList.map fun p=>(p.1,a.eval p.2)).toArray=vs) (hr:(Instr.build t vs).run P w=.ok v w) (hK:S w/\K (a.put dst v) w):effq P S ⟨q,dst,.build t parts,ty,g⟩ a w K:=by
 intro p af g
 have hv':(parts.map fun p=>(p.1,a.eval p.2))=vs:=by rw[<-hv];apply Array.toList_inj.1;simp
 unfold Oper.wp execOp
 simp only[hv',hr,Sem.run_bind,Sem.run_pure,Result.andThen_ok]
 exact hK
theorem aLg {tb v:Nat}{w:World}(h:w.cell? ⟨tb,4,none⟩=some (.int .i64 v)):Calls Tryz.prog 261 #[.pointer (some ⟨tb,0,none⟩)] w fun e w'=>e=.returned (.int .i64 v)/\w'=w:=by
 go_enter Tryz.func261,Tryz.ntmps261
 go_wp2
 go_ret
 exact ⟨rfl,rfl⟩
theorem aDi {tb v:Nat}{w:World}(h:w.cell? ⟨tb,5,none⟩=some (.int .i64 v)):Calls Tryz.prog 262 #[.pointer (some ⟨tb,0,none⟩)] w fun e w'=>e=.returned (.int .i64 v)/\w'=w:=by
 go_enter Tryz.func262,Tryz.ntmps262
 go_wp2
 go_ret
 exact ⟨rfl,rfl⟩
theorem aDt (w:World):(zeroValue 143).run Tryz.prog w=.ok (.agg #[.int .i64 0,.slice none 0 0,.slice none 0 0,.slice none 0 0]) w:=by
 go_simp
theorem bAb (K:Int)(A0 A1 A2:Option Addr)(n0 c0 n1 c1 n2 c2:Nat)(w:World) :
  (Instr.build 143 #[(0,.int .i64 K),(1,.slice A0 n0 c0),(2,.slice A1 n1 c1),(3,.slice A2 n2 c2)]).run Tryz.prog w=.ok (.agg #[.int .i64 K,.slice A0 n0 c0,.slice A1 n1 c1,.slice A2 n2 c2]) w:=by
 go_simp
theorem aCl (A0 A1 A2:Option Addr)(n0 c0 n1 c1 n2 c2:Nat)(w:World) :
  (Instr.build 143 #[(1,.slice A0 n0 c0),(2,.slice A1 n1 c1),(3,.slice A2 n2 c2)]).run Tryz.prog w=.ok (.agg #[.int .i64 0,.slice A0 n0 c0,.slice A1 n1 c1,.slice A2 n2 c2]) w:=by
 go_simp
theorem aZh (x y:Int)(w:World):(Instr.build 273 #[(0,.int .i64 x),(1,.int .i64 y)]).run Tryz.prog w=.ok (.agg #[.int .i64 x,.int .i64 y]) w:=by
 go_simp
theorem aKw:Elem Tryz.prog 133 143 4 80:=aBt (by kernel_rfl)
structure FLV where
 parent:Int
 msg:ByteArray
 A:Option Addr
 c:Nat
 files:List FV
def FLV.pl (f:FLV):FL:=⟨f.parent,f.msg,f.files⟩
def FLV.cells (f:FLV):List Value:=[.int .i64 f.parent,.string f.msg,.slice f.A f.files.length f.c]
theorem FLV.cells_len (f:FLV):f.cells.length=3:=rfl
structure STV where
 commit:Int
 A:Option Addr
 c:Nat
 files:List FV
def STV.pl (f:STV):SettL:=⟨f.commit,f.files⟩
def STV.cells (f:STV):List Value:=[.int .i64 f.commit,.slice f.A f.files.length f.c]
theorem STV.cells_len (f:STV):f.cells.length=2:=rfl
theorem MV.cells_len (f:MV):f.cells.length=2:=rfl
def RdO3 (w:World)(X:List Nat)(A:Option Addr)(c:Nat)(fs:List FV):Prop:=RdF w w.heap.size A fs.length c fs/\∀a,A=some a->0<fs.length->a.block∉X
theorem aBd {w w':World}{X:List Nat}{k c n:Nat}{A:Option Addr}{xs:List Value}(h:Rd w w.heap.size k A n c xs)(ha:∀a,A=some a->0<n->a.block∉X)(hk:Keeps X w w'):Rd w' w'.heap.size k A n c xs:=by
 refine ⟨h.len,h.cap,fun hn=>?_⟩
 obtain ⟨b,o,e,hb,hc⟩:=h.at_ hn
 exact ⟨b,o,e,Nat.lt_of_lt_of_le hb hk.1,fun j v hv=>(hk.2 ⟨b,o+j,none⟩ hb (show b∉X from ha ⟨b,o,none⟩ e hn)).trans (hc j v hv)⟩
theorem RdO3.keep {w w':World}{X:List Nat}{A:Option Addr}{c:Nat}{fs:List FV}(h:RdO3 w X A c fs)(hk:Keeps X w w'):RdO3 w' X A c fs:=
 ⟨⟨aBd h.1.row h.2 hk,rfl,h.1.fits⟩,h.2⟩
theorem aKu {w:World}{X Y:List Nat}{k c n B:Nat}{A:Option Addr}{xs:List Value}(h:Rd w B k A n c xs)(ha:∀a,A=some a->0<n->a.block∉X)(hm:∀b∈Y,b∈X\/B<=b):∀a,A=some a->0<n->a.block∉Y:=by
 intro a e hn hy
 obtain ⟨b,o,e2,hb,_⟩:=h.at_ hn
 rcases hm _ hy with h1 | h1
 ·exact ha a e hn h1
 rw[e] at e2;cases e2;exact absurd hb (Nat.not_lt.2 h1)
theorem RdO3.less {w:World}{X Y:List Nat}{A:Option Addr}{c:Nat}{fs:List FV}(h:RdO3 w X A c fs)(hm:∀b∈Y,b∈X\/w.heap.size<=b):RdO3 w Y A c fs:=
 ⟨h.1,aKu h.1.row h.2 hm⟩
structure FlOk (w:World) (X:List Nat) (f:FLV):Prop where
 files:RdO3 w X f.A f.c f.files
 few:f.files.length<=17592186044416
 par:I64 f.parent
 msg:f.msg.size<=140737488351232
theorem FlOk.keep {w w':World}{X:List Nat}{f:FLV}(h:FlOk w X f)(hk:Keeps X w w'):FlOk w' X f:=⟨h.files.keep hk,h.few,h.par,h.msg⟩
theorem FlOk.less {w:World}{X Y:List Nat}{f:FLV}(h:FlOk w X f)(hm:∀b∈Y,b∈X\/w.heap.size<=b):FlOk w Y f:=⟨h.files.less hm,h.few,h.par,h.msg⟩
structure MkOk (w:World) (X:List Nat) (m:MV):Prop where
 row:Rd w w.heap.size 1 m.A m.new.length m.c (m.new.map (.int .i64))
 off:∀a,m.A=some a->0<m.new.length->a.block∉X
 few:m.new.length<=17592186044416
 old:I64 m.old
 new:∀x∈m.new,I64 x
theorem MkOk.keep {w w':World}{X:List Nat}{m:MV}(h:MkOk w X m)(hk:Keeps X w w'):MkOk w' X m:=⟨aBd h.row h.off hk,h.off,h.few,h.old,h.new⟩
theorem MkOk.less {w:World}{X Y:List Nat}{m:MV}(h:MkOk w X m)(hm:∀b∈Y,b∈X\/w.heap.size<=b):MkOk w Y m:=⟨h.row,aKu h.row h.off hm,h.few,h.old,h.new⟩
structure RdFl (w:World) (B:Nat) (A:Option Addr) (n c:Nat) (l:List FLV):Prop where
 row:Rd w B 3 A n c (l.flatMap FLV.cells)
 len:l.length=n
 parts:∀f∈l,RdF w B f.A f.files.length f.c f.files/\f.files.length<=17592186044416/\I64 f.parent/\f.msg.size<=140737488351232
structure RdS (w:World) (B:Nat) (A:Option Addr) (n c:Nat) (l:List STV):Prop where
 row:Rd w B 2 A n c (l.flatMap STV.cells)
 len:l.length=n
 parts:∀f∈l,RdF w B f.A f.files.length f.c f.files/\f.files.length<=1000000/\I64 f.commit
section
variable {w w':World} {B B' n c:Nat} {A:Option Addr} {l:List FLV} {s:List STV}
theorem RdFl.to (h:RdFl w B A n c l)(hb:Below B w w')(hB:B<=B'):RdFl w' B' A n c l:=
 ⟨h.row.to hb hB,h.len,fun f hf=>⟨(h.parts f hf).1.to hb hB,(h.parts f hf).2⟩⟩
theorem RdS.to (h:RdS w B A n c s)(hb:Below B w w')(hB:B<=B'):RdS w' B' A n c s:=
 ⟨h.row.to hb hB,h.len,fun f hf=>⟨(h.parts f hf).1.to hb hB,(h.parts f hf).2⟩⟩
theorem RdFl.none_ (w:World)(B:Nat):RdFl w B none 0 0 []:=⟨Rd.none_ _ _ _,rfl,fun _ h=>by cases h⟩
theorem RdS.none_ (w:World)(B:Nat):RdS w B none 0 0 []:=⟨Rd.none_ _ _ _,rfl,fun _ h=>by cases h⟩
theorem RdFl.get (h:RdFl w B A n c l){k:Nat}(hk:k<n):∃b o f,A=some ⟨b,o,none⟩/\b<B/\l[k]? = some f/\f∈l/\
  w.cell? ⟨b,o+k*3,none⟩=some (.int .i64 f.parent)/\w.cell? ⟨b,o+k*3+1,none⟩=some (.string f.msg)/\w.cell? ⟨b,o+k*3+2,none⟩=some (.slice f.A f.files.length f.c):=by
 obtain ⟨b,o,f,e,hb,hx,_,hc⟩:=T.rd_flat FLV.cells_len (by omega) h.row h.len hk
 exact ⟨b,o,f,e,hb,hx,List.mem_of_getElem? hx,hc 0 _ rfl,hc 1 _ rfl,hc 2 _ rfl⟩
theorem RdS.get (h:RdS w B A n c s){k:Nat}(hk:k<n):∃b o f,A=some ⟨b,o,none⟩/\b<B/\s[k]? = some f/\f∈s/\
  w.cell? ⟨b,o+k*2,none⟩=some (.int .i64 f.commit)/\w.cell? ⟨b,o+k*2+1,none⟩=some (.slice f.A f.files.length f.c):=by
 obtain ⟨b,o,f,e,hb,hx,_,hc⟩:=T.rd_flat STV.cells_len (by omega) h.row h.len hk
 exact ⟨b,o,f,e,hb,hx,List.mem_of_getElem? hx,hc 0 _ rfl,hc 1 _ rfl⟩
end
theorem aMy:Elem Tryz.prog 22 40 3 48:=aBt (by kernel_rfl)
theorem aFa (l:List FLV):∀u∈l.flatMap FLV.cells,u.oneCell'=true:=by
 intro u hu
 obtain ⟨f,_,hf⟩:=List.mem_flatMap.1 hu
 simp[FLV.cells] at hf
 rcases hf with rfl | rfl | rfl<;>rfl
theorem aLr (l:List MV):∀u∈l.flatMap MV.cells,u.oneCell'=true:=by
 intro u hu
 obtain ⟨f,_,hf⟩:=List.mem_flatMap.1 hu
 simp[MV.cells] at hf
 rcases hf with rfl | rfl<;>rfl
end Go.Proofs.YtohblmepajhpaaaGreatDoor
