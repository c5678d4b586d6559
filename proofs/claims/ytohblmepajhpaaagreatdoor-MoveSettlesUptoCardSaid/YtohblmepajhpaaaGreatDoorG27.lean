/- Texts of the walks, together: Arguments opened, and how much they are: what a bound on the bulk says. The world in which the tables of unicode/utf8 lie as the program lays them. Four arguments of a law: opened. -/
import Derived.JoinedCond
import Derived.Test.YtohblmepajhpaaaGreatDoorRows
import Derived.Test.YtohblmepajhpaaaGreatDoorCards
import Derived.Test.YtohblmepajhpaaaGreatDoorTie
import Derived.ProofKit
import Derived.OpenShut
import Derived.Deep.DeepHandedRow
import Derived.SevenTiedAt
import Derived.Test.YtohblmepajhpaaaGreatDoorG01
import Derived.Test.YtohblmepajhpaaaGreatDoorG26
set_option maxRecDepth 100000
namespace Go.Proofs.YtohblmepajhpaaaGreatDoor
open Go.ChangeShapes Go.WideShapes Go.ChangeAt Go.RowKit
section
variable {H:Type} {enc:TypeId×Value->H} {W:World}
def OpensB (enc:TypeId×Value->H)(W:World)(t:TypeId)(E:List Value->Nat->Prop):Prop:=
 ∀fuel cs x,DataW.trod enc Tryz.prog W 0 (fun _=>true) true fuel t cs=some x->(∀n∈DataW.weights Tryz.prog t x.1,n<=reachBytes)->E cs (Rows.uptoBulk x.1)
theorem OpensB.mono {t:TypeId} {E E':List Value->Nat->Prop}(h:OpensB enc W t E)(hE:∀cs n,E cs n->E' cs n):OpensB enc W t E':=fun fuel cs x h1 h2=>hE _ _ (h fuel cs x h1 h2)
theorem aWm (d:DataW H):1<=Rows.uptoBulk d:=by
 cases d with
 | lit l=>cases l<;>simp[Rows.uptoBulk]
 | nil=>simp[Rows.uptoBulk]
 | ptr d=>simp[Rows.uptoBulk]
 | slice elems spare=>simp[Rows.uptoBulk]
 | agg parts=>simp[Rows.uptoBulk]
 | iface t d=>simp[Rows.uptoBulk]
 | map entries=>simp[Rows.uptoBulk]
 | held h=>simp[Rows.uptoBulk]
theorem aHl {t:TypeId}{E:List Value->Prop}(h:Opens enc W t E):OpensB enc W t fun cs n=>E cs/\1<=n:=fun fuel cs x h1 h2=>⟨h fuel cs x h1 h2,aWm _⟩
theorem aIr {t:TypeId}(ht:Tryz.prog.underlying t=some .string):OpensB enc W t fun cs n=>∃s:ByteArray,cs=[.string s]/\s.size<=140737488351232/\s.size+1<=n:=by
 intro fuel cs x h hw
 obtain ⟨s,rfl,rfl,_⟩:=DataW.trod_string ht h
 have h1:=hw s.data.toList.length (by simp[DataW.weights])
 have h3:s.data.toList.length=s.size:=rfl
 simp only[reachBytes] at h1
 exact ⟨s,rfl,by omega,by simp only[Rows.uptoBulk];omega⟩
theorem aPb {α:Type}{g:α->Nat}:∀{es:List α} {ds:List (DataW H)},es.length=ds.length->(∀(i:Nat) (e:α) (d:DataW H),es[i]? = some e->ds[i]? = some d->g e<=Rows.uptoBulk d)->sumN g es<=Rows.uptoBulkAll ds
 | [],[],_,_=>Nat.zero_le _
 | e::es,d::ds,hl,h=>by
  have h1:=h 0 e d rfl rfl
  have h2:=aPb (g:=g) (es:=es) (ds:=ds) (by simpa using hl) fun i e d he hd=>h (i+1) e d (by simpa using he) (by simpa using hd)
  unfold sumN at h2 ⊢
  rw[List.map_cons,List.sum_cons,Rows.uptoBulkAll];omega
theorem aEe {t:TypeId}{fs:Array Field}{E:Nat->List Value->Nat->Prop}(ht:Tryz.prog.underlying t=some (.struct fs))(hE:∀(i:Nat)(f:Field),fs[i]? = some f->OpensB enc W f.type (E i)) :
  OpensB enc W t fun cs n=>cs.length=Tryz.prog.cellsOf t/\∃ns:List Nat,ns.length=fs.size/\ns.sum<=n/\∀(i:Nat) (f:Field),fs[i]? = some f->∃m,ns[i]? = some m/\E i ((cs.drop f.offset).take (Tryz.prog.cellsOf f.type)) m:=by
 intro fuel cs x h hw
 obtain ⟨xs,n,rfl,rfl,hl,hlen,hf⟩:=DataW.trod_struct ht h
 refine ⟨hl,xs.map fun y=>Rows.uptoBulk y.1,by rw[List.length_map];exact hlen,?_,fun i f hi=>?_⟩
 ·have:∀l:List (DataW H×List MemPlace),(l.map fun y=>Rows.uptoBulk y.1).sum=Rows.uptoBulkAll (l.map (·.1)):=by
   intro l
   induction l with
   | nil=>rfl
   | cons y l ih=>rw[List.map_cons,List.sum_cons,List.map_cons,Rows.uptoBulkAll,ih]
  rw[this]
  simp only[Rows.uptoBulk];omega
 have hlt:i<fs.size:=(Array.getElem?_eq_some_iff.1 hi).1
 have h1:=hf i f hi
 rw[List.getElem?_eq_getElem (by omega:i<xs.length)] at h1
 refine ⟨Rows.uptoBulk xs[i].1,by rw[List.getElem?_map,List.getElem?_eq_getElem (by omega:i<xs.length)];rfl,hE i f hi _ _ _ h1 fun m hm=>hw m ?_⟩
 simp only[DataW.weights,ht]
 refine DataW.weights_mem_each (j:=i) (t:=f.type) (d:=xs[i].1) ?_ ?_ m hm
 ·simp[hi]
 rw[List.getElem?_map,List.getElem?_eq_getElem (by omega:i<xs.length)];rfl
theorem aDq {α:Type}{f:α->List Value}{Q:α->Prop}{g:α->Nat}{t e:TypeId}{sz bytes:Nat}(ht:Tryz.prog.underlying t=some (.slice e))(hc:Tryz.prog.cellsOf e=sz)(hb:Tryz.prog.bytesOf e=bytes)(hf:∀a,(f a).length=sz)(h0:0<sz)
  (hE:OpensB enc W e fun cs m=>∃a,cs=f a/\Q a/\g a<=m) :
  OpensB enc W t fun cs m=>∃(A:Option Addr) (n c:Nat) (es:List α),cs=[.slice A n c]/\es.length=n/\Rd W W.heap.size sz A n c (es.flatMap f)/\(∀a∈es,Q a)/\n*bytes<=140737488351232/\sumN g es+1<=m/\n+1<=m:=by
 intro fuel cs x h hw
 rcases DataW.trod_slice ht h with ⟨rfl,rfl⟩ | ⟨a,len,cap,elems,rest,n,_,rfl,rfl,_,hl,_,hlen,hel,_,_⟩
 ·exact ⟨none,0,0,[],rfl,rfl,Rd.none_ _ _ _,by simp,by omega,by simp[sumN,Rows.uptoBulk],by simp[Rows.uptoBulk]⟩
 rw[hc] at hel
 simp only[DataW.weights,ht,hb,List.mem_cons,List.mem_append] at hw
 have hlen2:len*bytes<=140737488351232:=by
  have:=hw _ (.inl rfl)
  simp only[List.length_map,hlen,reachBytes] at this
  have h2:len*bytes<=(len+rest.length)*bytes:=Nat.mul_le_mul_right _ (by omega)
  omega
 have each:∀i,i<len->∃e:α,((∀t u,(f e)[t]? = some u->W.cell? ((a.add (i*sz)).add t)=some u)/\(a.add (i*sz)).block<W.heap.size)/\Q e/\∀d,(elems.map (·.1))[i]? = some d->g e<=Rows.uptoBulk d:=by
  intro i hi
  have h1:=hel i hi
  have hmem:=List.getElem_mem (by omega:i<elems.length)
  rw[List.getElem?_eq_getElem (by omega:i<elems.length),Option.bind_eq_some_iff] at h1
  obtain ⟨cs,hcs,htr⟩:=h1
  obtain ⟨_,hl2,hcell⟩:=World.cells?_some hcs
  have hblk:=World.cells?_block hcs h0
  obtain ⟨q,rfl,hq,hg⟩:=hE _ _ _ htr fun n hn=>hw n (.inr (.inl (T.weights_mem_all (List.mem_map.2 ⟨_,hmem,rfl⟩) n hn)))
  refine ⟨q,⟨fun t u hu=>?_,hblk⟩,hq,fun d hd=>?_⟩
  ·have ht:t<sz:=by rw[<-hf q];exact (List.getElem?_eq_some_iff.1 hu).1
   rw[hcell t ht];exact hu
  rw[List.getElem?_map,List.getElem?_eq_getElem (by omega:i<elems.length)] at hd
  injection hd with hd
  subst hd;exact hg
 obtain ⟨es,hes,hp⟩:=T.list_of each
 have hs:=aPb (g:=g) (es:=es) (ds:=elems.map (·.1)) (by rw[List.length_map,hes,hlen]) fun i e d he hd=>(hp i e he).2.2 d hd
 have hs2:=aPb (g:=fun _=>1) (es:=es) (ds:=elems.map (·.1)) (by rw[List.length_map,hes,hlen]) fun i e d _ _=>aWm d
 have hs3:sumN (fun _:α=>1) es=len:=by unfold sumN;rw[List.map_const',List.sum_replicate_nat,Nat.mul_one];exact hes
 refine ⟨_,_,_,es,rfl,hes,T.rd_elems hf h0 hes hl (fun h0=>?_) (fun i e he=>(hp i e he).1.1),fun x hx=>?_,hlen2,by simp only[Rows.uptoBulk];omega,by simp only[Rows.uptoBulk];omega⟩
 ·have:=(hp 0 (es[0]'(by omega)) (List.getElem?_eq_getElem _)).1.2
  rwa [bBu] at this
 obtain ⟨i,hi,rfl⟩:=List.getElem_of_mem hx
 exact (hp i _ (List.getElem?_eq_getElem hi)).2.1
theorem aMx {t:TypeId}{E:List Value->Nat->Prop}(O:OpensB enc W t E){ts:List TypeId}{ds:List (DataW H)}{v:Value}{d:DataW H}{ps:List MemPlace}{j:Nat}
  (hsz:(DataW.weightsEach Tryz.prog ts ds).all (·<=reachBytes)=true) (ht:ts[j]? = some t) (hd:ds[j]? = some d) (h:DataW.Trod enc Tryz.prog W 0 (fun _=>true) true t v d ps):E v.cells.toList (Rows.uptoBulk d):=by
 obtain ⟨fuel,hf⟩:=h
 refine O fuel _ _ hf fun n hn=>?_
 have:=List.all_eq_true.1 hsz _ (DataW.weights_mem_each ht hd n hn)
 simpa using this
theorem aUk:OpensB enc W 48 fun cs n=>∃f:FV,cs=f.cells/\(f.path.size<=140737488351232/\f.text.size<=140737488351232)/\f.text.size+3<=n:=by
 refine (aEe (E:=fun i=>match i with | 0=>fun cs m=>∃s:ByteArray,cs=[.string s]/\s.size<=140737488351232/\s.size+1<=m | 1=>fun cs m=>(∃b:Bool,cs=[.bool b])/\1<=m | _=>fun cs m=>∃s:ByteArray,cs=[.string s]/\s.size<=140737488351232/\s.size+1<=m) Tryz.underlying48 ?_).mono ?_
 ·intro i f hf
  rcases i with _ | _ | _ | i<;>simp at hf
  ·subst hf;exact aIr Tryz.underlying9
  ·subst hf;exact aHl (aZn Tryz.underlying4)
  subst hf;exact aIr Tryz.underlying9
 rintro cs n ⟨hl,ns,hns,hsum,h⟩
 have hl3:cs.length=3:=hl
 have hn3:ns.length=3:=hns
 match cs,hl3,ns,hn3 with
 | [a,b,c],_,[n0,n1,n2],_=>
  obtain ⟨m0,z0,p,e1,h1,k1⟩:=h 0 _ rfl
  obtain ⟨m1,z1,⟨x,e2⟩,k2⟩:=h 1 _ rfl
  obtain ⟨m2,z2,t,e3,h3,k3⟩:=h 2 _ rfl
  have e1':[a]=[Value.string p]:=e1
  have e2':[b]=[Value.bool x]:=e2
  have e3':[c]=[Value.string t]:=e3
  cases e1'
  cases e2'
  cases e3'
  have z0':some n0=some m0:=z0
  have z1':some n1=some m1:=z1
  have z2':some n2=some m2:=z2
  injection z0' with z0'
  injection z1' with z1'
  injection z2' with z2'
  simp only[List.sum_cons,List.sum_nil] at hsum
  exact ⟨⟨p,x,t⟩,rfl,⟨h1,h3⟩,by show t.size+3<=n;omega⟩
def FilesB (W:World)(cs:List Value)(m:Nat):Prop:=∃(A:Option Addr) (c:Nat) (l:List FV),cs=[.slice A l.length c]/\RdF W W.heap.size A l.length c l/\l.length<=17592186044416/\sumN (fun f:FV=>f.text.size+3) l<=m/\3*l.length<=m
theorem bGj (l:List FV):3*l.length<=sumN (fun f:FV=>f.text.size+3) l:=by
 unfold sumN
 induction l with
 | nil=>simp
 | cons f l ih=>rw[List.map_cons,List.sum_cons,List.length_cons];omega
theorem aKi:OpensB enc W 29 (FilesB W):=by
 refine (aDq (f:=FV.cells) (Q:=fun f=>f.path.size<=140737488351232/\f.text.size<=140737488351232) (g:=fun f=>f.text.size+3) Tryz.underlying29 (by kernel_rfl) (bytes:=40) (by kernel_rfl) FV.cells_len (by omega) aUk).mono ?_
 rintro cs m ⟨A,n,c,es,rfl,rfl,hr,hq,hb,hm,hn⟩
 have:=bGj es
 exact ⟨A,c,es,rfl,⟨hr,rfl,hq⟩,by omega,by omega,by omega⟩
theorem bHn (l:List FV):wff l<=20*sumN (fun f:FV=>f.text.size+3) l:=by
 unfold wff sumN
 induction l with
 | nil=>simp
 | cons f l ih=>rw[List.map_cons,List.map_cons,List.sum_cons,List.sum_cons];omega
theorem aUg:OpensB enc W 40 fun cs n=>∃f:FLV,cs=f.cells/\(RdF W W.heap.size f.A f.files.length f.c f.files/\f.files.length<=17592186044416/\I64 f.parent/\f.msg.size<=140737488351232)/\f.msg.size+sumN (fun f:FV=>f.text.size+3) f.files<=n:=by
 refine (aEe (E:=fun i=>match i with | 0=>fun cs m=>(∃k:Int,cs=[.int .i64 k]/\-9223372036854775808<=k/\k<=9223372036854775807)/\1<=m | 1=>fun cs m=>∃s:ByteArray,cs=[.string s]/\s.size<=140737488351232/\s.size+1<=m | _=>FilesB W) Tryz.underlying40 ?_).mono ?_
 ·intro i f hf
  rcases i with _ | _ | _ | i<;>simp at hf
  ·subst hf;exact aHl (aFk Tryz.underlying3)
  ·subst hf;exact aIr Tryz.underlying9
  subst hf;exact aKi
 rintro cs n ⟨hl,ns,hns,hsum,h⟩
 have hl2:cs.length=3:=hl
 have hn3:ns.length=3:=hns
 match cs,hl2,ns,hn3 with
 | [c0,c1,c2],_,[n0,n1,n2],_=>
  obtain ⟨m0,y0,⟨a,z0,h0⟩,_⟩:=h 0 _ rfl
  obtain ⟨m1,y1,s,z1,h1,k1⟩:=h 1 _ rfl
  obtain ⟨m2,y2,A,c,l,z2,h3,h4,h5,_⟩:=h 2 _ rfl
  have e0:[c0]=[Value.int .i64 a]:=z0
  have e1:[c1]=[Value.string s]:=z1
  have e2:[c2]=[Value.slice A l.length c]:=z2
  cases e0
  cases e1
  cases e2
  have y1':some n1=some m1:=y1
  have y2':some n2=some m2:=y2
  injection y1' with y1'
  injection y2' with y2'
  simp only[List.sum_cons,List.sum_nil] at hsum
  exact ⟨⟨a,s,A,c,l⟩,rfl,⟨h3,h4,h0,h1⟩,by show s.size+sumN (fun f:FV=>f.text.size+3) l<=n;omega⟩
theorem aQq:OpensB enc W 22 fun cs m=>∃(A:Option Addr) (c:Nat) (l:List FLV),cs=[.slice A l.length c]/\RdFl W W.heap.size A l.length c l/\l.length<=17592186044416/\sumN (fun f:FLV=>f.msg.size+sumN (fun f:FV=>f.text.size+3) f.files) l<=m:=by
 refine (aDq (f:=FLV.cells) (Q:=fun f=>RdF W W.heap.size f.A f.files.length f.c f.files/\f.files.length<=17592186044416/\I64 f.parent/\f.msg.size<=140737488351232) (g:=fun f=>f.msg.size+sumN (fun f:FV=>f.text.size+3) f.files) Tryz.underlying22 (by kernel_rfl) (bytes:=48) (by kernel_rfl) FLV.cells_len (by omega) aUg).mono ?_
 rintro cs m ⟨A,n,c,es,rfl,rfl,hr,hq,hb,hm,hn⟩
 exact ⟨A,c,es,rfl,⟨hr,rfl,hq⟩,by omega,by omega⟩
theorem aVt:OpensB enc W 36 fun cs m=>∃(A:Option Addr) (c:Nat) (l:List Int),cs=[.slice A l.length c]/\Rd W W.heap.size 1 A l.length c (l.map (.int .i64))/\l.length<=17592186044416/\(∀x∈l,I64 x)/\l.length<=m:=by
 refine (aDq (sz:=1) (f:=fun x:Int=>[Value.int .i64 x]) (Q:=I64) (g:=fun _=>1) Tryz.underlying36 (by kernel_rfl) (bytes:=8) (by kernel_rfl) (fun _=>rfl) (by omega) ((aHl (aFk Tryz.underlying3)).mono ?_)).mono ?_
 ·rintro cs n ⟨⟨x,h1,h2⟩,h3⟩;exact ⟨x,h1,h2,h3⟩
 rintro cs m ⟨A,n,c,es,rfl,rfl,hr,hq,hb,hm,hn⟩
 exact ⟨A,c,es,rfl,by rw[bFe] at hr;exact hr,by omega,hq,by omega⟩
theorem aPn:OpensB enc W 43 fun cs n=>∃m:MV,cs=m.cells/\(Rd W W.heap.size 1 m.A m.new.length m.c (m.new.map (.int .i64))/\m.new.length<=17592186044416/\I64 m.old/\∀x∈m.new,I64 x)/\m.new.length<=n:=by
 refine (aEe (E:=fun i=>match i with | 0=>fun cs m=>(∃k:Int,cs=[.int .i64 k]/\-9223372036854775808<=k/\k<=9223372036854775807)/\1<=m | _=>fun cs m=>∃(A:Option Addr) (c:Nat) (l:List Int),cs=[.slice A l.length c]/\Rd W W.heap.size 1 A l.length c (l.map (.int .i64))/\l.length<=17592186044416/\(∀x∈l,I64 x)/\l.length<=m) Tryz.underlying43 ?_).mono ?_
 ·intro i f hf
  rcases i with _ | _ | i<;>simp at hf
  ·subst hf;exact aHl (aFk Tryz.underlying3)
  subst hf;exact aVt
 rintro cs n ⟨hl,ns,hns,hsum,h⟩
 have hl2:cs.length=2:=hl
 have hn3:ns.length=2:=hns
 match cs,hl2,ns,hn3 with
 | [c0,c1],_,[n0,n1],_=>
  obtain ⟨m0,y0,⟨a,z0,h0⟩,_⟩:=h 0 _ rfl
  obtain ⟨m1,y1,A,c,l,z1,h1,h2,h3,h4⟩:=h 1 _ rfl
  have e0:[c0]=[Value.int .i64 a]:=z0
  have e1:[c1]=[Value.slice A l.length c]:=z1
  cases e0
  cases e1
  have y1':some n1=some m1:=y1
  injection y1' with y1'
  simp only[List.sum_cons,List.sum_nil] at hsum
  exact ⟨⟨a,A,c,l⟩,rfl,⟨h1,h2,h0,h3⟩,by show l.length<=n;omega⟩
theorem aNm:OpensB enc W 23 fun cs m=>∃(A:Option Addr) (c:Nat) (l:List MV),cs=[.slice A l.length c]/\RdM W W.heap.size A l.length c l/\l.length<=17592186044416/\sumN (fun m:MV=>m.new.length) l<=m:=by
 refine (aDq (f:=MV.cells) (Q:=fun m=>Rd W W.heap.size 1 m.A m.new.length m.c (m.new.map (.int .i64))/\m.new.length<=17592186044416/\I64 m.old/\∀x∈m.new,I64 x) (g:=fun m=>m.new.length) Tryz.underlying23 (by kernel_rfl) (bytes:=32) (by kernel_rfl) MV.cells_len (by omega) aPn).mono ?_
 rintro cs m ⟨A,n,c,es,rfl,rfl,hr,hq,hb,hm,hn⟩
 exact ⟨A,c,es,rfl,⟨hr,rfl,hq⟩,by omega,by omega⟩
theorem bBt {d0 d1 d2 d3 d4:DataW H}{gs:List (DataW H)}(h:Rows.uptoSmall H ([d0,d1,d2,d3,d4]++gs)=true):Rows.uptoBulk d0+Rows.uptoBulk d1+Rows.uptoBulk d4<=1048576:=by
 have h:Rows.uptoBulkAll ([d0,d1,d2,d3,d4]++gs)<=1048576:=of_decide_eq_true h
 simp only[List.cons_append,Rows.uptoBulkAll] at h
 omega
end
theorem aLo {α:Type}{g h:α->Nat}(k:Nat):∀{l:List α},(∀x∈l,g x<=k*h x)->sumN g l<=k*sumN h l
 | [],_=>by simp[sumN]
 | x::l,H=>by
  have h1:=H x (by simp)
  have h2:=aLo (g:=g) (h:=h) k (l:=l) fun y hy=>H y (List.mem_cons_of_mem _ hy)
  unfold sumN at h2 ⊢
  rw[List.map_cons,List.map_cons,List.sum_cons,List.sum_cons,Nat.mul_add];omega
theorem bFu {l:List FLV}{ms:List MV}{fs:List FV}{x y z:Nat}(h0:sumN (fun f:FLV=>f.msg.size+sumN (fun f:FV=>f.text.size+3) f.files) l<=x)(h1:sumN (fun m:MV=>m.new.length) ms<=y)(h2:sumN (fun f:FV=>f.text.size+3) fs<=z)
  (h:x+y+z<=1048576) {A:Option Addr} {c:Nat} {k:Int}:sumN wfl l+sumN wst [⟨k,A,c,fs⟩]+sumN wmk ms<=1000000000:=by
 have a1:=aLo (g:=wfl) (h:=fun f:FLV=>f.msg.size+sumN (fun f:FV=>f.text.size+3) f.files) 20 (l:=l) fun f _=>by
  have:=bHn f.files
  show f.msg.size+wff f.files<=20*(f.msg.size+sumN (fun f:FV=>f.text.size+3) f.files)
  omega
 have a2:=aLo (g:=wmk) (h:=fun m:MV=>m.new.length) 10 (l:=ms) fun m _=>Nat.le_refl _
 have a3:=bHn fs
 have a4:sumN wst [⟨k,A,c,fs⟩]=wff fs:=by simp[sumN,wst]
 omega
def uAcc:List Int:=[128,191,160,191,128,159,144,191,128,143,0,0,0,0,0,0,0,0,0,0,0,0,0,0,0,0,0,0,0,0,0,0]
def T.cellsOf (cs:List Value):Obj->Obj
 | .cells _ t frozen=>.cells cs.toArray t frozen
 | o=>o
def uFirst:List Value:=Go.Pinned.utf8FirstZ.map fun (z:Nat)=>Value.int .u8 (Int.ofNat z)
noncomputable def laidU (os:Os):World:=
 { World.holding Tryz.prog os ⟨#[],#[],[]⟩ with heap:=((World.holding Tryz.prog os ⟨#[],#[],[]⟩).heap.modify 1 (T.cellsOf uFirst)).modify 2 (T.cellsOf (uAcc.map fun z=>.int .u8 z)) }
theorem aTc {H:Type}{enc:TypeId×Value->H}{P:Program}{w:World}{base:Nat}{spare:Nat->Bool}{held:Bool}{t0 t1 t2 t3 t4:TypeId}{args:Array Value}{ds:List (DataW H)}{ps:List MemPlace}
  (h:DataW.TrodAll enc P w base spare held [t0,t1,t2,t3,t4] args.toList ds ps) :
  ∃v0 v1 v2 v3 v4 d0 d1 d2 d3 d4 p0 p1 p2 p3 p4,args=#[v0,v1,v2,v3,v4]/\ds=[d0,d1,d2,d3,d4]/\ps=p0++(p1++(p2++(p3++p4)))/\
   DataW.Trod enc P w base spare held t0 v0 d0 p0/\DataW.Trod enc P w base spare held t1 v1 d1 p1/\DataW.Trod enc P w base spare held t2 v2 d2 p2/\DataW.Trod enc P w base spare held t3 v3 d3 p3/\DataW.Trod enc P w base spare held t4 v4 d4 p4:=by
 obtain ⟨v0,vs,d0,ds',p0,q,e,rfl,rfl,h0,h⟩:=trodAll_cons h
 obtain ⟨v1,vs,d1,ds',p1,q,rfl,rfl,rfl,h1,h⟩:=trodAll_cons h
 obtain ⟨v2,vs,d2,ds',p2,q,rfl,rfl,rfl,h2,h⟩:=trodAll_cons h
 obtain ⟨v3,vs,d3,ds',p3,q,rfl,rfl,rfl,h3,h⟩:=trodAll_cons h
 obtain ⟨v4,vs,d4,ds',p4,q,rfl,rfl,rfl,h4,h⟩:=trodAll_cons h
 obtain ⟨rfl,rfl,rfl⟩:=trodAll_nil h
 exact ⟨v0,v1,v2,v3,v4,d0,d1,d2,d3,d4,p0,p1,p2,p3,p4,Array.ext' e,rfl,by simp,h0,h1,h2,h3,h4⟩
end Go.Proofs.YtohblmepajhpaaaGreatDoor
