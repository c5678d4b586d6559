/- Contracts of functions that the law reaches; plain laws. -/
import Derived.Shelf.Strings.OnBuilder
import Derived.Shelf.Strings.BuilderK
import Derived.Shelf.Slices.Equal
import Derived.Shelf.Slices.Empties2
import Derived.Shelf.Slices.Clone
import Derived.Shelf.Small.Wraps
import Derived.Test.YtohblmepajhpaaaGreatDoorRows
import Derived.OwnWalk
import Derived.Test.YtohblmepajhpaaaGreatDoorG03
set_option maxHeartbeats 8000000
set_option maxRecDepth 100000
open Go.Lib (hid)
namespace Go.Proofs.YtohblmepajhpaaaGreatDoor
open Go.Proofs.Tryz (prog)
open Go.Shelf
variable {x:ByteArray}{a b:List ByteArray}{A:Option Addr}{B ca m cb k W i j q g c:Nat}{w:World}{e t:TypeId}{v:Value}{xs:List Value}
def Tryz.lays169_ren:Go.Shelf.Ren:=⟨fun | 169=>187 | n=>n,fun | 70=>241 | 9=>9 | 0=>0 | 72=>243 | 37=>102 | 127=>288 | 3=>3 | 5=>5 | n=>n,fun | n=>n⟩
theorem Tryz.lays169:Go.Proofs.Lays.n169 prog Tryz.lays169_ren:={
 mixed:=T
 f169:=Tryz.func187.trans (congrArg some T)
 t0:=dY
 a0:=gJ
 z0:=fI
 v0:=ez
 t3:=bw
 a3:=ee
 z3:=dN
 v3:=bS
 t9:=bG
 a9:=eL
 z9:=d9
 v9:=cO
 t37:=fL
 a37:=Tryz.isAgg102
 z37:=Tryz.sizeOf102
 v37:=lR
 t70:=fM
 a70:=Tryz.isAgg241
 z70:=Tryz.sizeOf241
 v70:=lS
 t72:=k9
 a72:=Tryz.isAgg243
 z72:=Tryz.sizeOf243
 v72:=lT
 t127:=jj
 a127:=Tryz.isAgg288
 z127:=Tryz.sizeOf288
 v127:=lU }
theorem Tryz.Builder_Extra_169:Builder.Extra prog Tryz.lays169_ren:={
 sizeBuilder:=T
 liesBuilder:=T
 t5:=dE
 a5:=gK
 z5:=fJ
 v5:=eC
 infoByte:=T
 cellsByte:=T
 sizeByte:=T
 neB5:=by decide }
def Tryz.lays156_ren:Go.Shelf.Ren:=⟨fun | 156=>222 | 165=>265 | 166=>223 | 169=>187 | 240=>266 | 241=>290 | 276=>291 | 277=>297 | n=>n,fun | 31=>135 | 9=>9 | 3=>3 | 4=>4 | 0=>0 | 20=>20 | 72=>243 | 76=>285 | 70=>241 | 37=>102 | 75=>284 | 127=>288 | 164=>329 | 5=>5 | 80=>247 | n=>n,fun | n=>n⟩
theorem Tryz.lays156:Go.Proofs.Lays.n156 prog Tryz.lays156_ren:={
 mixed:=T
 f156:=Tryz.func222.trans (congrArg some T)
 f165:=Tryz.func265.trans (congrArg some T)
 f166:=Tryz.func223.trans (congrArg some T)
 f169:=Tryz.func187.trans (congrArg some T)
 f240:=Tryz.func266.trans (congrArg some T)
 f241:=Tryz.func290.trans (congrArg some T)
 f276:=Tryz.func291.trans (congrArg some T)
 f277:=Tryz.func297.trans (congrArg some T)
 t0:=dY
 a0:=gJ
 z0:=fI
 v0:=ez
 t3:=bw
 a3:=ee
 z3:=dN
 v3:=bS
 t4:=cg
 a4:=ef
 z4:=dP
 v4:=ci
 t9:=bG
 a9:=eL
 z9:=d9
 v9:=cO
 t20:=Tryz.underlying20
 a20:=Tryz.isAgg20
 z20:=Tryz.sizeOf20
 v20:=Tryz.zeroValue20
 t31:=eS
 a31:=ic
 z31:=gM
 v31:=fd
 t37:=fL
 a37:=Tryz.isAgg102
 z37:=Tryz.sizeOf102
 v37:=lR
 t70:=fM
 a70:=Tryz.isAgg241
 z70:=Tryz.sizeOf241
 v70:=lS
 t72:=k9
 a72:=Tryz.isAgg243
 z72:=Tryz.sizeOf243
 v72:=lT
 t75:=Tryz.underlying284
 a75:=Tryz.isAgg284
 z75:=Tryz.sizeOf284
 v75:=Tryz.zeroValue284
 t76:=Tryz.underlying285
 a76:=Tryz.isAgg285
 z76:=Tryz.sizeOf285
 v76:=Tryz.zeroValue285
 t127:=jj
 a127:=Tryz.isAgg288
 z127:=Tryz.sizeOf288
 v127:=lU
 t164:=jk
 a164:=Tryz.isAgg329
 z164:=Tryz.sizeOf329
 v164:=Tryz.zeroValue329 }
theorem Tryz.Builder_Extra_156:Builder.Extra prog Tryz.lays156_ren:={
 sizeBuilder:=T
 liesBuilder:=T
 t5:=dE
 a5:=gK
 z5:=fJ
 v5:=eC
 infoByte:=T
 cellsByte:=T
 sizeByte:=T
 neB5:=by decide }
open Go.RowKit in
theorem Tryz.strings_Join_none(a:Option Addr)(c:Nat)(b:ByteArray)(w:World) :
  Calls prog 222 #[.slice a 0 c,.string b] w fun e w'=>e=.returned (.string ⟨#[]⟩)/\w'=w:=Any.strings_Join_none Tryz.lays156 Tryz.Builder_Extra_156 a c b w
open Go.RowKit in
theorem Tryz.strings_Join(g o c:Nat)(xs:List ByteArray)(a:ByteArray)(w:World)(b:∀(j:Nat) x,xs[j]? = some x->w.cell? ⟨g,o+j,none⟩=some (.string x))(h:g<w.heap.size)(i:xs.length<=140737488355328)(d:xs.length<=c)(f:(Lib.join (xs.map (·.data.toList)) a.data.toList).length<=140737488355328) :
  Calls prog 222 #[.slice (some ⟨g,o,none⟩) xs.length c,.string a] w fun e w'=>e=.returned (.string ⟨(Lib.join (xs.map (·.data.toList)) a.data.toList).toArray⟩)/\Below w.heap.size w w':=Any.strings_Join Tryz.lays156 Tryz.Builder_Extra_156 g o c xs a w b h i d f
def Tryz.lays122_ren:Go.Shelf.Ren:=⟨fun | 122=>175 | 215=>212 | n=>n,fun | 3=>3 | 4=>4 | n=>n,fun | n=>n⟩
theorem Tryz.lays122:Go.Proofs.Lays.n122 prog Tryz.lays122_ren:={
 mixed:=T
 f122:=Tryz.func175.trans (congrArg some T)
 f215:=Tryz.func212.trans (congrArg some T)
 t3:=bw
 a3:=ee
 z3:=dN
 v3:=bS
 t4:=cg
 a4:=ef
 z4:=dP
 v4:=ci }
open Go.RowKit in
theorem Tryz.cmp_Compare_int(x y:Int)(w:World) :
  Calls prog 175 #[.int .i64 x,.int .i64 y] w fun e w'=>e=.returned (.int .i64 (Lib.compareInt x y))/\w'=w:=Any.cmp_Compare_int Tryz.lays122 x y w
def Tryz.lays193_ren:Go.Shelf.Ren:=⟨fun | 193=>289 | n=>n,fun | 31=>135 | 9=>9 | 4=>4 | 3=>3 | 0=>0 | n=>n,fun | n=>n⟩
theorem Tryz.lays193:Go.Proofs.Lays.n193 prog Tryz.lays193_ren:={
 mixed:=T
 f193:=Tryz.func289.trans (congrArg some T)
 t0:=dY
 a0:=gJ
 z0:=fI
 v0:=ez
 t3:=bw
 a3:=ee
 z3:=dN
 v3:=bS
 t4:=cg
 a4:=ef
 z4:=dP
 v4:=ci
 t9:=bG
 a9:=eL
 z9:=d9
 v9:=cO
 t31:=eS
 a31:=ic
 z31:=gM
 v31:=fd }
open Go.RowKit Go.Lib in
theorem Tryz.slices_Equal_string(f g n c h i m d:Nat)(xs ys:List ByteArray)(w:World)(o:n<=xs.length)(p:m<=ys.length)(b:n<=9223372036854775807)(a:m<=9223372036854775807)(k:∀j,j<xs.length->w.cell? ⟨f,g+j,none⟩=some (.string (xs.getD j ByteArray.empty)))(l:∀j,j<ys.length->w.cell? ⟨h,i+j,none⟩=some (.string (ys.getD j ByteArray.empty))) :
  Calls prog 289 #[.slice (some ⟨f,g,none⟩) n c,.slice (some ⟨h,i,none⟩) m d] w fun e w'=>e=.returned (.bool (decide (xs.take n=ys.take m)))/\∃q,w'=w.drewN q:=Any.slices_Equal_string Tryz.lays193 f g n c h i m d xs ys w o p b a k l
open Go.RowKit Go.Lib in
theorem Tryz.slices_Equal_string_empty(b f:Option Addr)(c m d:Nat)(w:World)(a:m<=9223372036854775807) :
  Calls prog 289 #[.slice b 0 c,.slice f m d] w fun e w'=>e=.returned (.bool (decide (m=0)))/\w'=w:=Any.slices_Equal_string_empty Tryz.lays193 b f c m d w a
def Tryz.laysNm215_ren:Go.Shelf.Ren:=⟨fun | 15=>206 | n=>n,fun | 22=>36 | 3=>3 | 4=>4 | n=>n,fun | n=>n⟩
theorem Tryz.laysNm215:Go.Proofs.Lays2.n15 prog Tryz.laysNm215_ren:={
 mixed:=T
 f15:=Tryz.func206.trans (congrArg some T)
 t3:=bw
 a3:=ee
 z3:=dN
 v3:=bS
 t4:=cg
 a4:=ef
 z4:=dP
 v4:=ci
 t22:=iz
 a22:=Tryz.isAgg36
 z22:=Tryz.sizeOf36
 v22:=Tryz.zeroValue36
 i3:=by kernel_rfl }
open Go.RowKit Go.Lib in
theorem Tryz.slices_Clone_int(b off n c:Nat)(a:List Int)(w:World)(g:n<=a.length)(d:n*8<=140737488355328)(h:∀j,j<a.length->w.cell? ⟨b,off+j,none⟩=some (.int .i64 (a.getD j 0))) :
  Calls prog 206 #[.slice (some ⟨b,off,none⟩) n c] w fun e w'=>∃f,e=.returned f/\w'.ownsRow w.heap.size 3 1 f n ((a.take n).map (Value.int .i64))/\f≠.slice none 0 0/\Below w.heap.size w w':=Any.slices_Clone_int Tryz.laysNm215 b off n c a w g d h
open Go.RowKit Go.Lib in
theorem Tryz.slices_Clone_int_nil(n c:Nat)(w:World) :
  Calls prog 206 #[.slice none n c] w fun e w'=>e=.returned (.slice none 0 0)/\w'=w:=Any.slices_Clone_int_nil Tryz.laysNm215 n c w
def Tryz.laysNm216_ren:Go.Shelf.Ren:=⟨fun | 16=>260 | n=>n,fun | 24=>135 | 9=>9 | 4=>4 | n=>n,fun | n=>n⟩
theorem Tryz.laysNm216:Go.Proofs.Lays2.n16 prog Tryz.laysNm216_ren:={
 mixed:=T
 f16:=Tryz.func260.trans (congrArg some T)
 t4:=cg
 a4:=ef
 z4:=dP
 v4:=ci
 t9:=bG
 a9:=eL
 z9:=d9
 v9:=cO
 t24:=eS
 a24:=ic
 z24:=gM
 v24:=fd
 i9:=by kernel_rfl }
open Go.RowKit Go.Lib in
theorem Tryz.slices_Clone_string(b off n c:Nat)(a:List ByteArray)(w:World)(g:n<=a.length)(d:n*16<=140737488355328)(h:∀j,j<a.length->w.cell? ⟨b,off+j,none⟩=some (.string (a.getD j ByteArray.empty))) :
  Calls prog 260 #[.slice (some ⟨b,off,none⟩) n c] w fun e w'=>∃f,e=.returned f/\w'.ownsRow w.heap.size 9 1 f n ((a.take n).map (Value.string))/\f≠.slice none 0 0/\Below w.heap.size w w':=Any.slices_Clone_string Tryz.laysNm216 b off n c a w g d h
open Go.RowKit Go.Lib in
theorem Tryz.slices_Clone_string_nil(n c:Nat)(w:World) :
  Calls prog 260 #[.slice none n c] w fun e w'=>e=.returned (.slice none 0 0)/\w'=w:=Any.slices_Clone_string_nil Tryz.laysNm216 n c w
open Go.RowKit Go.Lib in
theorem Tryz.slices_Clone_string_zero(a:Addr)(c:Nat)(w:World) :
  Calls prog 260 #[.slice (some a) 0 c] w fun e w'=>∃b,e=.returned b/\w'.ownsRow w.heap.size 9 1 b 0 []/\b≠.slice none 0 0/\Below w.heap.size w w':=Any.slices_Clone_string_zero Tryz.laysNm216 a c w
open Go.RowKit Go.Lib in
theorem Tryz.slices_Equal_string_lens(b f:Option Addr)(n c m d:Nat)(w:World)(a:n≠m) :
  Calls prog 289 #[.slice b n c,.slice f m d] w fun e w'=>e=.returned (.bool false)/\w'=w:=Any.slices_Equal_string_lens Tryz.lays193 b f n c m d w a
theorem aOe:∀(a b:List ByteArray),∃s:List ByteArray,s.Sublist a/\s.Sublist b/\s.length=lcs a b
 | [],b=>⟨[],gV _,gV _,by simp[lcs]⟩
 | x::a,[]=>⟨[],gV _,gV _,by simp[lcs]⟩
 | x::a,y::b=>by
  rw[lcs];split
  ·rename_i e
   subst e;obtain ⟨s,c,d,f⟩:=aOe a b;exact ⟨x::s,c.cons_cons x,d.cons_cons x,by rw[aD,f]⟩
  rcases Nat.le_total (lcs a (y::b)) (lcs (x::a) b) with h | h
  ·obtain ⟨s,c,d,f⟩:=aOe (x::a) b
   exact ⟨s,c,d.cons y,by rw[f,Nat.max_eq_right h]⟩
  obtain ⟨s,c,d,f⟩:=aOe a (y::b);exact ⟨s,c.cons x,d,by rw[f,Nat.max_eq_left h]⟩
termination_by a b=>a.length+b.length
theorem aRq {z:ByteArray}{s:List ByteArray}(h:(z::s).Sublist (x::a)):s.Sublist a/\(z≠x->(z::s).Sublist a):=by
 cases h with
 | cons _ h=>exact ⟨(j6 z s).trans h,fun _=>h⟩
 | cons_cons _ h=>exact ⟨h,fun e=>absurd rfl e⟩
theorem aOh:∀(a b s:List ByteArray),s.Sublist a->s.Sublist b->s.length<=lcs a b
 | [],b,s,h1,_=>by rw[mC.1 h1];simp
 | x::a,[],s,_,h2=>by rw[mC.1 h2];simp
 | x::a,y::b,[],_,_=>by simp
 | x::a,y::b,z::s,h1,h2=>by
  obtain ⟨f,g⟩:=aRq h1;obtain ⟨i,j⟩:=aRq h2;rw[lcs];split
  ·have:=aOh a b s f i
   rw[aD];omega
  rename_i e;by_cases c:z=x
  ·have d:z≠y:=fun h=>e (c▸h)
   have:=aOh (x::a) b (z::s) h1 (j d);omega
  have:=aOh a (y::b) (z::s) (g c) h2;omega
termination_by a b=>a.length+b.length
theorem aZm {s:List ByteArray}(h:s.Sublist (a++[x])):s.dropLast.Sublist a:=by
 have b:=h.reverse;rw[List.reverse_append] at b
 have d:s.reverse.tail.Sublist a.reverse:=by
  cases e:s.reverse with
  | nil=>exact gV _
  | cons z r=>
   rw[e] at b;exact (aRq b).1
 have c:=d.reverse;rw[gP] at c;rw[<-gP s,List.dropLast_reverse];exact c
theorem bLe(x:ByteArray)(a b:List ByteArray):lcs (a++[x]) (b++[x])=lcs a b+1:=by
 refine mZ ?_ ?_
 ·obtain ⟨s,c,d,e⟩:=aOe (a++[x]) (b++[x])
  have:=aOh a b s.dropLast (aZm c) (aZm d);rw[List.length_dropLast] at this;omega
 obtain ⟨s,c,d,e⟩:=aOe a b;have:=aOh (a++[x]) (b++[x]) (s++[x]) (c.append_right [x]) (d.append_right [x]);rw[ae,bf] at this;omega
theorem bHb:∀(c a b:List ByteArray),lcs (a++c) (b++c)=lcs a b+c.length
 | [],a,b=>by simp
 | x::c,a,b=>by
  have:=bHb c (a++[x]) (b++[x]);rw[bLe] at this;rw[aH,aH] at this;rw[aD];have e:∀l:List ByteArray,l++([x]++c)=l++x::c:=fun l=>rfl;rw[e,e] at this;omega
theorem aVo:∀(c a b:List ByteArray),lcs (c++a) (c++b)=lcs a b+c.length
 | [],a,b=>by simp
 | x::c,a,b=>by
  rw[aV,aV,lcs,ao rfl,aVo c a b,aD];omega
def sfx (a b:List ByteArray):Nat:=pfx a.reverse b.reverse
theorem bNj(a b:List ByteArray):sfx a b<=a.length/\sfx a b<=b.length:=by
 have:∀(a b:List ByteArray),pfx a b<=a.length/\pfx a b<=b.length:=by
  intro a
  induction a with
  | nil=>intro b;simp[pfx]
  | cons x a ih=>
   intro b
   cases b with
   | nil=>simp[pfx]
   | cons y b=>
    rw[pfx];have:=ih b;split<;>simp only[aD]<;>omega
 have h:=this a.reverse b.reverse;rw[g7,g7] at h;exact h
theorem bKo(a b:List ByteArray):a.drop (a.length-sfx a b)=b.drop (b.length-sfx a b):=by
 have h:=aFq a.reverse b.reverse;have c:=congrArg List.reverse h;rw[lV,lV,gP,gP,g7,g7] at c;exact c
theorem bIe(a b:List ByteArray)(n m:Nat)(g:a.take n=b.take n)(_hna:n<=a.length)(e:n<=b.length)
  (f:(a.drop n).drop ((a.drop n).length-m)=(b.drop n).drop ((b.drop n).length-m)) (i:m<=(a.drop n).length) (_hmb:m<=(b.drop n).length) :
  lcs a b=n+m+lcs ((a.drop n).take ((a.drop n).length-m)) ((b.drop n).take ((b.drop n).length-m)):=by
 have j:lcs a b=lcs (a.drop n) (b.drop n)+n:=by
  have h:=aVo (a.take n) (a.drop n) (b.drop n);rw[aY,g,aY,aE,bP e] at h;exact h
 generalize a.drop n=c at *;generalize b.drop n=d at *;have h:=bHb (c.drop (c.length-m)) (c.take (c.length-m)) (d.take (d.length-m));rw[aY,f,aY,<-f,aN] at h;omega
open Go.RowKit
theorem aUt:∀{k:Nat} {a b:List ByteArray},k<=a.length->k<=b.length->(∀(i:Nat) (x y:ByteArray),i<k->a[i]? = some x->b[i]? = some y->x=y)->(k=a.length\/k=b.length\/∃x y:ByteArray,a[k]? = some x/\b[k]? = some y/\x≠y)->pfx a b=k
 | 0,[],b,_,_,_,_=>by simp[pfx]
 | 0,x::a,[],_,_,_,_=>by simp[pfx]
 | 0,x::a,y::b,_,_,_,h=>by
  have g:x≠y:=by
   rcases h with h | h | ⟨u,v,c,d,f⟩
   ·simp at h
   ·simp at h
   simp at c d;subst c;subst d;exact f
  rw[pfx,ah g]
 | k+1,[],b,h,_,_,_=>by simp at h
 | k+1,x::a,[],_,h,_,_=>by simp at h
 | k+1,x::a,y::b,c,d,f,h4=>by
  have e:x=y:=f 0 x y O rfl rfl;rw[pfx,ao e,aUt (k:=k) (by simpa using c) (by simpa using d) (fun i u v m j l=>f (i+1) u v O (by simpa using j) (by simpa using l)) (by simpa using h4)]
theorem aTp {B:Option Addr}{n:Nat}(hn:n<=17592186044416)(_hm:m<=17592186044416)(ha:Rd w w.heap.size 1 A n ca (a.map .string))(Y:Rd w w.heap.size 1 B m cb (b.map .string)) :
  Calls prog 279 #[.slice A n ca,.slice B m cb] w fun e w'=>e=.returned (.int .i64 (pfx a b))/\Below w.heap.size w w':=by
 have s:a.length=n:=by have:=ha.len;rw[az] at this;omega
 have t:b.length=m:=by have:=Y.len;rw[az] at this;omega
 have E:=hid s;have F:=hid t;clear s t;go_enter Tryz.func279,Tryz.ntmps279;go_wp2;go_loopw[5] (fun i wr=>∃k:Nat,k<=n/\k<=m/\i=.int .i64 k/\Below w.heap.size w wr/\Hid (∀(j:Nat) (x y:ByteArray),j<k->a[j]? = some x->b[j]? = some y->x=y)) (fun i _=>n-(intOf i).toNat)
 case atStart=>exact ⟨0,al _,al _,rfl,Below.refl _ _,hid (fun j _ _ q=>absurd q (bN _))⟩
 obtain ⟨k,hk,Z,rfl,J,q⟩:=hrel;have c:=J.drew;by_cases h1:k<n
 ·by_cases h2:k<m
  ·obtain ⟨R,S,x,rfl,K,T,h0⟩:=ha.str h1
   obtain ⟨U,V,y,rfl,z,W,h3⟩:=Y.str h2;have N:=hid T;have O:=hid W;clear T W;go_wp2;refine aAe (fun w'=>Below w.heap.size w w') (qs 21) mixed κ c ?_;intro X M Q r d h g;have G:M ⟨R,S+k,none⟩=some (.string x):=h _ _ fun w' L=>(L.cell (p:=⟨R,S+k,none⟩) K).trans h0;have H:M ⟨U,V+k,none⟩=some (.string y):=h _ _ fun w' L=>(L.cell (p:=⟨U,V+k,none⟩) z).trans h3;have f:decide ((k:Int)<n)=true:=aq ω;have l:decide ((k:Int)<m)=true:=aq ω;simp only[qcmp];by_cases I:x=y
   ·have P:(x.toList == y.toList)=true:=by rw[I];exact aW _
    have o:=hid (show ∀(j:Nat) (u v:ByteArray),j<k+1->a[j]? = some u->b[j]? = some v->u=v from fun j u v ff C D=>by
     by_cases e:j=k
     ·subst e;rw[N.out] at C;rw[O.out] at D;injection C with C;injection D with D;rw[<-C,<-D];exact I
     exact q.out j u v ω C D)
    simp (maxSteps:=9^7) only[↓qpre,aAb,aAg,aAc,G,H,f,l];refine ⟨⟨ω,ω⟩,⟨ω,ω⟩,g _ _ ?_⟩;clear g r d h G H f l P;go_wp2;go_roundw
    case rel=>exact ⟨k+1,ω,ω,by go_num,c,o.out⟩
    simp[intOf];omega
   have P:=aBi I;have o:=hid (show pfx a b=k from aUt (by have:=E.out;omega) (by have:=F.out;omega) q.out (.inr (.inr ⟨x,y,N.out,O.out,I⟩)));simp (maxSteps:=9^7) only[↓qpre,aAb,aAg,aAc,G,H,f,l];refine ⟨⟨ω,ω⟩,⟨ω,ω⟩,g _ _ ?_⟩;clear g r d h G H f l;go_wp2;go_ret;exact ⟨by rw[o.out];rfl,c⟩
  have o:=hid (show pfx a b=k from aUt (by have:=E.out;omega) (by have:=F.out;omega) q.out (.inr (.inl (by have:=F.out;omega))));go_wp2;refine aAe (fun w'=>Below w.heap.size w w') (qs 21) mixed κ c ?_;intro X M Q r d h g;have f:decide ((k:Int)<n)=true:=aq ω;have l:decide ((k:Int)<m)=false:=ak ω;simp only[qcmp];simp (maxSteps:=9^7) only[↓qpre,aAb,aAg,aAc,f,l];refine g _ _ ?_;clear g r d h f l;go_wp2;go_ret;exact ⟨by rw[o.out];rfl,c⟩
 have o:=hid (show pfx a b=k from aUt (by have:=E.out;omega) (by have:=F.out;omega) q.out (.inl (by have:=E.out;omega)));go_wp2;refine aAe (fun w'=>Below w.heap.size w w') (qs 21) mixed κ c ?_;intro X M Q r d h g;have f:decide ((k:Int)<n)=false:=ak ω;simp only[qcmp];simp (maxSteps:=9^7) only[↓qpre,aAb,aAg,aAc,f];refine g _ _ ?_;clear g r d h f;go_wp2;go_ret;exact ⟨by rw[o.out];rfl,c⟩
theorem bIh(l:k<=a.length)(m:k<=b.length)(n:∀(i:Nat)(x y:ByteArray),i<k->a[a.length-1-i]? = some x->b[b.length-1-i]? = some y->x=y)(o:k=a.length\/k=b.length\/(k<a.length/\k<b.length/\∃x y:ByteArray,a[a.length-1-k]? = some x/\b[b.length-1-k]? = some y/\x≠y)):sfx a b=k:=by
 refine aUt (by simpa using l) (by simpa using m) (fun i x y j c d=>n i x y j ?_ ?_) ?_
 ·rw[gk O] at c;exact c
 ·rw[gk O] at d;exact d
 rcases o with h | h | ⟨f,g,x,y,c,d,e⟩
 ·left;simpa using h
 ·right;left;simpa using h
 right;right;exact ⟨x,y,by rw[gk f];exact c,by rw[gk g];exact d,e⟩
theorem bLw {B:Option Addr}{n:Nat}(hn:n<=17592186044416)(hm:m<=17592186044416)(ha:Rd w w.heap.size 1 A n ca (a.map .string))(hb:Rd w w.heap.size 1 B m cb (b.map .string)) :
  Calls prog 280 #[.slice A n ca,.slice B m cb] w fun e w'=>e=.returned (.int .i64 (sfx a b))/\Below w.heap.size w w':=by
 have z:a.length=n:=by have:=ha.len;rw[az] at this;omega
 have C:b.length=m:=by have:=hb.len;rw[az] at this;omega
 have q:=hid z;have r:=hid C;clear z C;go_enter Tryz.func280,Tryz.ntmps280;go_wp2;go_loopw[5] (fun i wr=>∃k:Nat,k<=n/\k<=m/\i=.int .i64 k/\Below w.heap.size w wr/\Hid (∀(j:Nat) (x y:ByteArray),j<k->a[a.length-1-j]? = some x->b[b.length-1-j]? = some y->x=y)) (fun i _=>n-(intOf i).toNat)
 case atStart=>exact ⟨0,al _,al _,rfl,Below.refl _ _,hid (fun j _ _ s=>absurd s (bN _))⟩
 obtain ⟨k,hk,ff,rfl,J,s⟩:=hrel;have c:=J.drew;by_cases h1:k<n
 ·by_cases h2:k<m
  ·obtain ⟨T,U,x,rfl,K,V,h0⟩:=ha.str (k:=n-1-k) ω
   obtain ⟨W,X,y,rfl,D,Y,h3⟩:=hb.str (k:=m-1-k) ω;have N:=hid (show a[a.length-1-k]? = some x by rw[q.out];exact V);have O:=hid (show b[b.length-1-k]? = some y by rw[r.out];exact Y);clear V Y;go_wp2;refine aAe (fun w'=>Below w.heap.size w w') (qs 29) mixed κ c ?_;intro Z M Q t d h g;have G:M ⟨T,U+(n-1-k),none⟩=some (.string x):=h _ _ fun w' L=>(L.cell (p:=⟨T,U+(n-1-k),none⟩) K).trans h0;have H:M ⟨W,X+(m-1-k),none⟩=some (.string y):=h _ _ fun w' L=>(L.cell (p:=⟨W,X+(m-1-k),none⟩) D).trans h3;have f:decide ((k:Int)<n)=true:=aq ω;have l:decide ((k:Int)<m)=true:=aq ω;have P:(n:Int)-1-k=((n-1-k:Nat):Int):=ω;have R:(m:Int)-1-k=((m-1-k:Nat):Int):=ω;simp only[qcmp];by_cases I:x=y
   ·have S:(x.toList == y.toList)=true:=by rw[I];exact aW _
    have o:=hid (show ∀(j:Nat) (u v:ByteArray),j<k+1->a[a.length-1-j]? = some u->b[b.length-1-j]? = some v->u=v from fun j u v nj E F=>by
     by_cases e:j=k
     ·subst e;rw[N.out] at E;rw[O.out] at F;injection E with E;injection F with F;rw[<-E,<-F];exact I
     exact s.out j u v ω E F)
    simp (maxSteps:=9^7) only[↓qpre,aAb,aAg,aAc,P,R,G,H,f,l];(repeat refine And.intro (by first|omega|(unfold inI64;omega)) ?_);refine g _ _ ?_;clear g t d h G H f l S;go_wp2;go_roundw
    case rel=>exact ⟨k+1,ω,ω,by go_num,c,o.out⟩
    simp[intOf];omega
   have S:=aBi I;have o:=hid (show sfx a b=k from bIh (by have:=q.out;omega) (by have:=r.out;omega) s.out (.inr (.inr ⟨by have:=q.out;omega,by have:=r.out;omega,x,y,N.out,O.out,I⟩)));simp (maxSteps:=9^7) only[↓qpre,aAb,aAg,aAc,P,R,G,H,f,l];(repeat refine And.intro (by first|omega|(unfold inI64;omega)) ?_);refine g _ _ ?_;clear g t d h G H f l;go_wp2;go_ret;exact ⟨by rw[o.out];rfl,c⟩
  have o:=hid (show sfx a b=k from bIh (by have:=q.out;omega) (by have:=r.out;omega) s.out (.inr (.inl (by have:=r.out;omega))));go_wp2;refine aAe (fun w'=>Below w.heap.size w w') (qs 29) mixed κ c ?_;intro Z M Q t d h g;have f:decide ((k:Int)<n)=true:=aq ω;have l:decide ((k:Int)<m)=false:=ak ω;simp only[qcmp];simp (maxSteps:=9^7) only[↓qpre,aAb,aAg,aAc,f,l];refine g _ _ ?_;clear g t d h f l;go_wp2;go_ret;exact ⟨by rw[o.out];rfl,c⟩
 have o:=hid (show sfx a b=k from bIh (by have:=q.out;omega) (by have:=r.out;omega) s.out (.inl (by have:=q.out;omega)));go_wp2;refine aAe (fun w'=>Below w.heap.size w w') (qs 29) mixed κ c ?_;intro Z M Q t d h g;have f:decide ((k:Int)<n)=false:=ak ω;simp only[qcmp];simp (maxSteps:=9^7) only[↓qpre,aAb,aAg,aAc,f];refine g _ _ ?_;clear g t d h f;go_wp2;go_ret;exact ⟨by rw[o.out];rfl,c⟩
theorem bJs {x:Int}(h:0<=x/\x<=2000000000):IntKind.i32.wrap x=x:=by
 simp[IntKind.wrap,IntKind.bits,IntKind.signed];omega
def gcel (a b:List ByteArray)(i j p q:Nat):Nat:=if i<p\/(i=p/\j<=q) then cel a b p q else 0
def gridL (a b:List ByteArray)(i j:Nat):List Value:=(List.range ((a.length+1)*(b.length+1))).map fun t=>Value.int .i32 ((gcel a b i j (t / (b.length+1)) (t % (b.length+1)):Nat):Int)
theorem aIb {n:Nat}(a:i<=n)(b:j<W):i*W+j<(n+1)*W:=by
 have:=cd W a;rw[iM];omega
theorem bAs(a:j<W):(i*W+j) / W=i/\(i*W+j) % W=j:=by
 have b:0<W:=O;exact ⟨by rw[jZ,Nat.add_mul_div_right _ _ b,mD a,aO],by rw[jZ,Nat.add_mul_mod_self_right,mF a]⟩
theorem aMz(a b:List ByteArray)(i j:Nat):(gridL a b i j).length=(a.length+1)*(b.length+1):=by simp[gridL]
theorem aGk {p:Nat}(f:p<=a.length)(g:q<=b.length)(h:i<p\/(i=p/\j<=q)):(gridL a b i j)[p*(b.length+1)+q]? = some (.int .i32 (cel a b p q:Nat)):=by
 obtain ⟨d,e⟩:=bAs (W:=b.length+1) (i:=p) (j:=q) O;have c:=aIb (n:=a.length) (W:=b.length+1) (j:=q) f O;rw[gridL,aG,g9 c,kb,d,e,gcel,ao h]
theorem aWr(a b:List ByteArray):gridL a b a.length 0=List.replicate ((a.length+1)*(b.length+1)) (.int .i32 0):=by
 refine cR (by simp[gridL]) fun t c e=>?_;simp only[gridL,cS,cM,fN];rw[aMz] at c
 have:gcel a b a.length 0 (t / (b.length+1)) (t % (b.length+1))=0:=by
  unfold gcel;split
  ·rename_i h
   have d:t / (b.length+1)<a.length+1:=ky (by rw[fO];exact c);rw[show t / (b.length+1)=a.length by omega];exact aSp a b _
  rfl
 rw[this];rfl
theorem bEw(a b:List ByteArray)(i:Nat):gridL a b (i+1) 0=gridL a b i b.length:=by
 refine cR (by simp[gridL]) fun t e f=>?_;simp only[gridL,cS,cM];congr 2;have c:t % (b.length+1)<b.length+1:=j7 _ O;unfold gcel;by_cases h:i<t / (b.length+1)
 ·rw[ao O,ao O]
 rw[ah O];split
 ·rename_i d
  rw[show t % (b.length+1)=b.length by omega,aYx]
 rfl
theorem bIg(a b:List ByteArray){i j:Nat}(m:j<=b.length):(gridL a b i (j+1)).set (i*(b.length+1)+j) (.int .i32 (cel a b i j:Nat))=gridL a b i j:=by
 refine cR (by simp[gridL]) fun t d f=>?_;rw[fD];split
 ·rename_i h
  subst h;obtain ⟨d,f⟩:=bAs (W:=b.length+1) (i:=i) (j:=j) O;simp only[gridL,cS,cM,d,f,gcel];rw[ao (Or.inr ⟨trivial,aa _⟩)]
 rename_i h;simp only[gridL,cS,cM];congr 2;have e:=kc t (b.length+1);unfold gcel;by_cases c:i<t / (b.length+1)\/(i=t / (b.length+1)/\j+1<=t % (b.length+1))
 ·rw[ao c,ao O]
 rw[ah c,ah];rintro (g | ⟨k,l⟩)
 ·omega
 refine h ?_;have:j=t % (b.length+1):=O;rw[this,k,fO];exact e
structure Gr (w:World) (B g bx W N:Nat) (xs:List Value):Prop where
 c0:w.cell? ⟨bx,0,none⟩=some (.slice (some ⟨g,0,none⟩) N N)
 c1:w.cell? ⟨bx,1,none⟩=some (.int .i64 W)
 own:w.ownsRow B 21 1 (.slice (some ⟨g,0,none⟩) N N) N xs
 ne:bx≠g
 lo:B<=bx
 hi:bx<w.heap.size
theorem aAf {n:Nat}{w':World}(h:w.ownsRow B e k v n xs)(a:Below w.heap.size w w'):w'.ownsRow B e k v n xs:=
 h.kept (row:=none) ⟨a.os,a.tape,a.output,a.size,fun j b _=>a.block j b⟩ (by cases c:v.ownBlock<;>simp)
section
variable {w w':World} {B g bx W N:Nat} {xs:List Value}
theorem Gr.drew(h:Gr w B g bx W N xs):Gr w.drew B g bx W N xs:=⟨h.c0,h.c1,h.own.drew,h.ne,h.lo,h.hi⟩
theorem Gr.cell(h:Gr w B g bx W N xs){k:Nat}{u:Value}(a:xs[k]? = some u):w.cell? ⟨g,k,none⟩=some u:=by
 rw[h.own.cellAt k (by rw[<-h.own.1];exact (aj.1 a).1),a]
theorem Gr.frz(h:Gr w B g bx W N xs)(k:Nat):w.frozen? ⟨g,k,none⟩=false:=h.own.frozenAt k
theorem Gr.store(h:Gr w B g bx W N xs)(k:Nat)(u:Value):Gr (w.setCell ⟨g,k,none⟩ u) B g bx W N (xs.set k u):=by
 have b:=h.own.stored k u;have a:∀o:Nat,(⟨g,k,none⟩:Addr)≠⟨bx,o,none⟩:=fun o e=>h.ne (by injection e with e1 _ _;exact e1.symm);exact ⟨by rw[eX _ _ _ _ (a 0)];exact h.c0,by rw[eX _ _ _ _ (a 1)];exact h.c1,b.1,h.ne,h.lo,by simpa using h.hi⟩
theorem Gr.ge(h:Gr w B g bx W N xs):B<=g/\g<w.heap.size:=h.own.lt g rfl
end
theorem aOy {bx N o:Nat}{I J:Int}(p:I=(i:Int))(q:J=(j:Int))(r:i*W+j=o)(A:N<=17592186044416)(t:o<N)
  (u:w.cell? ⟨bx,0,none⟩=some (.slice (some ⟨g,0,none⟩) N N)) (x:w.cell? ⟨bx,1,none⟩=some (.int .i64 W)) (y:w.cell? ⟨g,o,none⟩=some v) :
  Calls prog 288 #[.pointer (some ⟨bx,0,none⟩),.int .i64 I,.int .i64 J] w fun e w'=>e=.returned v/\w'=w.drew:=by
 subst p;subst q;have l:(i:Int)*(W:Int)=((i*W:Nat):Int):=(ke ..).symm;generalize i*W=s at *;subst r;go_enter Tryz.func288,Tryz.ntmps288;go_wp2;refine aAe (fun w'=>w'=w.drew) (qs 15) mixed T rfl ?_;intro z M Q n c b k;have d:M ⟨bx,0,none⟩=some (.slice (some ⟨g,0,none⟩) N N):=b _ _ fun w' a=>by subst a;exact u
 have f:M ⟨bx,1,none⟩=some (.int .i64 W):=b _ _ fun w' a=>by subst a;exact x
 have h:M ⟨g,s+j,none⟩=some v:=b _ _ fun w' a=>by subst a;exact y
 have m:(s:Int)+(j:Int)=((s+j:Nat):Int):=O;simp only[qcmp];simp (maxSteps:=9^7) only[↓qpre,aAb,aAg,aAc,d,f,l,m,h];(repeat refine And.intro (by first|omega|(unfold inI64;omega)) ?_);refine k _ _ ?_;clear k n c b d f h;go_wp2;go_ret;exact ⟨rfl,rfl⟩
structure Elem1 (P:Program) (t e:TypeId) (bytes:Nat) (z:Value):Prop where
 und:P.underlying t=some (.slice e)
 row:∃i,P.info? e=some i/\i.zero=some z/\i.size=1/\i.bytes=bytes
 one:z.cells=#[z]
theorem aFv {P:Program}{a:Act}{ops:Array Oper}{rest:List Oper}{o:Oper}{Q:Exit->Act->World->Prop}(f:o.guard=none)(l c:Operand)(t:TypeId)
  (q:o.op=.makeSlice t l c) {e:TypeId} {bytes:Nat} {z:Value} (E:Elem1 P t e bytes z) (base n:Nat)
  {L C:Int} (r:a.eval l=.int .i64 L) (s:a.eval c=.int .i64 C) (hL:L=(n:Int)) (u:C=(n:Int)) (v:bytes*n<=281474976710656) (g:n<=maxLen) (b:base<=w.heap.size)
  (x:∀w',w'.ownsRow base e 1 (.slice (some ⟨w.heap.size,0,none⟩) n n) n (List.replicate n z)->w.grownBy w' none->wpList P ops Q rest (a.put o.dst (.slice (some ⟨w.heap.size,0,none⟩) n n)) w') :
  wpList P ops Q (o::rest) a w:=by
 obtain ⟨i,j,k,m,d⟩:=E.row;refine mG w f l c t q base e i z 1 E.und j k m .i64 .i64 L C n r s hL u (by rw[d];exact v) g b fun w' h p=>x w' ?_ p;rw[E.one,bW,kz] at h;exact h
theorem aSg {P:Program}{bytes:Nat}{z:Value}(E:Elem P t e 1 bytes)(b:(P.info? e).bind (·.zero)=some z)(g:z.cells=#[z]):Elem1 P t e bytes z:=by
 obtain ⟨i,h,c,a,d,f,_⟩:=E.row;rw[c] at b;simp only[mu,a] at b
 cases b
 exact ⟨E.und,⟨i,c,a,d,f⟩,g⟩
theorem bMh:Elem1 prog 321 21 4 (.int .i32 0):=aSg (aCa T) T rfl
def MadeIs (a b:List ByteArray)(w:World)(e:Ending) (w':World):Prop:=
 ∃g bx,e=.returned (.pointer (some ⟨bx,0,none⟩))/\Gr w' w.heap.size g bx (b.length+1) ((a.length+1)*(b.length+1)) (gridL a b 0 0)/\Below w.heap.size w w'
theorem bJw {B:Option Addr}{n:Nat}(hn:n<=400)(hm:m<=400)(ha:Rd w w.heap.size 1 A n ca (a.map .string))(hb:Rd w w.heap.size 1 B m cb (b.map .string)) :
  Calls prog 287 #[.slice A n ca,.slice B m cb] w (MadeIs a b w):=by
 have nm:a.length=n:=by have:=ha.len;rw[az] at this;omega
 have nq:b.length=m:=by have:=hb.len;rw[az] at this;omega
 have U:=hid nm;have C:=hid nq;clear nm nq;obtain ⟨W,hW⟩:∃W:Nat,m+1=W:=⟨_,rfl⟩;have nG:(m:Int)+1=(W:Int):=ω;obtain ⟨N,X⟩:∃N:Nat,(n+1)*W=N:=⟨_,rfl⟩;have nF:N<=160801:=by rw[<-X];exact Nat.mul_le_mul (show n+1<=401 by omega) (show W<=401 by omega)
 have nH:((n:Int)+1)*(W:Int)=(N:Int):=by rw[<-X];push_cast;rfl
 have HN:=hid X;go_enter Tryz.func287,Tryz.ntmps287
 go_wp2_with first
  | (at_make;refine aFv rfl (.tmp 14) (.tmp 14) 321 rfl bMh w.heap.size N rfl rfl rfl rfl ω (by simp only[maxLen];omega) (aa _) ?_;intro w1 t f)
 have nr:Below w.heap.size w w1:=(Below.refl _ _).grown f (aa _) (fun g hg=>by cases hg);have E:=(t.lt _ rfl).2
 have hG:Gr (w1.alloc (.cells #[.slice (some ⟨w.heap.size,0,none⟩) N N,.int .i64 (W:Int)] 342)) w.heap.size w.heap.size w1.heap.size W N (gridL a b n 0):=by
  refine ⟨?_,?_,?_,by intro e;simp only at E;omega,f.size,by simp⟩
  ·rw[World.cell?,au];rfl
  ·rw[World.cell?,au];rfl
  have e:gridL a b n 0=List.replicate N (.int .i32 0):=by rw[<-U.out,aWr,U.out,C.out,hW,HN.out]
  rw[e];exact t.alloc _
 have HG:=hid hG;have ns:=hid (nr.alloc (by exact f.size) (.cells #[.slice (some ⟨w.heap.size,0,none⟩) N N,.int .i64 (W:Int)] 342));clear hG nr t f;generalize w1.alloc (.cells #[.slice (some ⟨w.heap.size,0,none⟩) N N,.int .i64 (W:Int)] 342)=w2 at *;generalize w1.heap.size=bx at *
 go_loopw[6] (fun i wr=>∃j:Nat,j<=n/\i=.int .i64 ((j:Int)-1)/\Hid (Below w.heap.size w wr)/\Hid (Gr wr w.heap.size w.heap.size bx W N (gridL a b j 0)))
   (fun i _=>(intOf i+1).toNat)
 case atStart=>exact ⟨n,aa _,rfl,ns,HG⟩
 clear ns HG;obtain ⟨j,hj,rfl,HW,HT⟩:=hrel
 cases j with
 | zero=>
  go_wp2;go_ret;exact ⟨w.heap.size,bx,rfl,by rw[U.out,C.out,hW,HN.out];exact HT.out,HW.out⟩
 | succ j=>
  rw[show ((j+1:Nat):Int)-1=(j:Int) from ω];obtain ⟨ba,oa,x,rfl,nD,nB,Y⟩:=ha.str (k:=j) ω;have HX:=hid nB;clear nB;go_wp2
  go_loopw[7] (fun k wr=>∃q:Nat,q<=m/\k=.int .i64 ((q:Int)-1)/\Hid (Below w.heap.size w wr)/\Hid (Gr wr w.heap.size w.heap.size bx W N (gridL a b j q)))
    (fun k _=>(intOf k+1).toNat)
  case atStart=>exact ⟨m,aa _,rfl,HW,by have:=HT.out;rw[bEw,C.out] at this;exact this⟩
  clear HW HT;obtain ⟨q,hq,rfl,HW,HT⟩:=hrel
  cases q with
  | zero=>
   go_wp2;go_roundw
   case rel=>exact ⟨j,ω,by go_num,HW,HT⟩
   simp[intOf]
  | succ q=>
   rw[show ((q+1:Nat):Int)-1=(q:Int) from ω];obtain ⟨bb,ob,y,rfl,nE,nC,Z⟩:=hb.str (k:=q) ω;have HY:=hid nC;clear nC;go_wp2;refine aAe (fun w'=>Below w.heap.size w w') (qs 9) mixed κ HW.out.drew ?_;intro T M Q K D L S;have P:M ⟨ba,oa+j,none⟩=some (.string x):=L _ _ fun w' O=>(O.cell (p:=⟨ba,oa+j,none⟩) nD).trans Y;have R:M ⟨bb,ob+q,none⟩=some (.string y):=L _ _ fun w' O=>(O.cell (p:=⟨bb,ob+q,none⟩) nE).trans Z;clear L;have V:=hid HW.out.drew;have s:=hid HT.out.drew;clear HW HT;have c:=aRm HX.out HY.out;have HS:Hid (cel a b j q<=401):=(by have:=aLl a b j q;have:=U.out;unfold Hid;omega);have nu:j*W+q<N:=(by rw[<-X];exact aIb (n:=n) ω ω);have E:(j+1)*W+q<N:=(by rw[<-X];exact aIb (n:=n) ω ω);have nw:(j+1)*W+(q+1)<N:=(by rw[<-X];exact aIb (n:=n) ω ω);have nz:j*W+(q+1)<N:=(by rw[<-X];exact aIb (n:=n) ω ω);have F:=bIg a b (i:=j) (j:=q) (by have:=C.out;omega)
   have gD:(gridL a b j (q+1))[(j+1)*W+(q+1)]? = some (.int .i32 (cel a b (j+1) (q+1):Nat)):=by
    have:=aGk (a:=a) (b:=b) (i:=j) (j:=q+1) (p:=j+1) (q:=q+1) (by have:=U.out;omega) (by have:=C.out;omega) (.inl ω);rw[C.out,hW] at this;exact this
   have gL:(gridL a b j (q+1))[(j+1)*W+q]? = some (.int .i32 (cel a b (j+1) q:Nat)):=by
    have:=aGk (a:=a) (b:=b) (i:=j) (j:=q+1) (p:=j+1) (q:=q) (by have:=U.out;omega) (by have:=C.out;omega) (.inl ω);rw[C.out,hW] at this;exact this
   have gR:(gridL a b j (q+1))[j*W+(q+1)]? = some (.int .i32 (cel a b j (q+1):Nat)):=by
    have:=aGk (a:=a) (b:=b) (i:=j) (j:=q+1) (p:=j) (q:=q+1) (by have:=U.out;omega) (by have:=C.out;omega) (.inr ⟨rfl,ω⟩);rw[C.out,hW] at this;exact this
   rw[C.out,hW] at F;have z:=hid F;have HD:=hid (And.intro gD (And.intro gL gR));clear F gD gL gR;simp only[qcmp];by_cases ff:x=y
   ·have e1:(x.toList == y.toList)=true:=by rw[ff];exact aW _
    rw[ao ff] at c;simp (maxSteps:=9^7) only[↓qpre,aAb,aAg,aAc,P,R];(repeat refine And.intro (by first|omega|(unfold inI64;omega)) ?_);refine S _ _ ?_;clear S K D P R e1;go_wp2;refine aAe (fun w'=>w'.cell? ⟨bx,0,none⟩=some (.slice (some ⟨w.heap.size,0,none⟩) N N)/\w'.cell? ⟨bx,1,none⟩=some (.int .i64 W)) (qe [17,20] 21) mixed κ ⟨s.out.c0,s.out.c1⟩ ?_;intro T M Q K D L S;have P:M ⟨bx,0,none⟩=some (.slice (some ⟨w.heap.size,0,none⟩) N N):=L _ _ fun w' O=>O.1;have R:M ⟨bx,1,none⟩=some (.int .i64 W):=L _ _ fun w' O=>O.2;have i1:(j:Int)*(W:Int)=((j*W:Nat):Int):=(ke ..).symm;have i2:((j*W:Nat):Int)+(q:Int)=((j*W+q:Nat):Int):=(by push_cast;rfl);simp only[qcmp,Nat.reduceBEq];simp (maxSteps:=9^7) only[↓qpre,aAb,aAg,aAc,P,R,i1,i2];(repeat refine And.intro (by first|omega|(unfold inI64;omega)) ?_);have h:=hid s.out.drew;have G:=hid V.out.drew;refine aAh κ (aOy (i:=j+1) (j:=q+1) (W:=W) (N:=N) (g:=w.heap.size) (by push_cast;rfl) (by push_cast;rfl) rfl ω nw h.out.c0 h.out.c1 (h.out.cell HD.out.1)) rfl rfl ?_;rintro e w5 ⟨rfl,rfl⟩;have d:=hid h.out.drew;have H:=hid G.out.drew;refine ⟨_,rfl,K _ ⟨d.out.c0,d.out.c1⟩,?_⟩;have i3:IntKind.i32.wrap ((cel a b (j+1) (q+1):Nat)+1:Int)=((cel a b j q:Nat):Int):=(by rw[c];push_cast;exact bJs (by have:=HS.out;omega));simp (maxSteps:=9^7) only[↓qpre,aAb,aAg,aAc,i3];(repeat refine And.intro (by first|omega|(unfold inI64;omega)) ?_);have I:∃u,(gridL a b j (q+1))[j*W+q]? = some u:=⟨_,ac (by rw[aMz,U.out,C.out,hW,X];exact nu)⟩;obtain ⟨u,hu⟩:=I;have l:=d.out.store (j*W+q) (.int .i32 (cel a b j q:Nat))
    rw[z.out] at l;have J:=congrArg Option.isSome (d.out.cell hu);have nj:=hid (H.out.setCell (p:=⟨w.heap.size,j*W+q,none⟩) (aa _) (.int .i32 (cel a b j q:Nat)));have nk:=hid l;refine aBa (v:=.int .i32 (cel a b j q:Nat)) (b:=w.heap.size) (o:=j*W+q) κ rfl rfl J (d.out.frz _) rfl ⟨K _ ⟨l.c0,l.c1⟩,?_⟩;simp (maxSteps:=9^7) only[aAb];refine S _ _ ?_;clear S K D L P R i1 i2 i3 l J hu HD z HS c d H h G s V HX HY;go_wp2;go_roundw
    case rel=>exact ⟨q,ω,by go_num,nj,nk⟩
    simp[intOf]
   have e1:=aBi ff;rw[ah ff] at c;simp (maxSteps:=9^7) only[↓qpre,aAb,aAg,aAc,P,R];(repeat refine And.intro (by first|omega|(unfold inI64;omega)) ?_);refine S _ _ ?_;clear S K D P R e1;go_wp2;refine aAe (fun w'=>w'.cell? ⟨bx,0,none⟩=some (.slice (some ⟨w.heap.size,0,none⟩) N N)/\w'.cell? ⟨bx,1,none⟩=some (.int .i64 W)) [(true,0),(true,1),(true,2),(true,3),(true,4),(true,5),(true,6),(true,7),(true,8),(true,9),(true,10),(true,11),(true,12),(true,13),(true,14),(true,15),(true,17),(true,18),(true,19),(true,20),(false,16),(false,21),(true,22),(true,23),(false,24)] mixed κ ⟨s.out.c0,s.out.c1⟩ ?_;intro T M Q K D L S;have P:M ⟨bx,0,none⟩=some (.slice (some ⟨w.heap.size,0,none⟩) N N):=L _ _ fun w' O=>O.1;have R:M ⟨bx,1,none⟩=some (.int .i64 W):=L _ _ fun w' O=>O.2;have i1:(j:Int)*(W:Int)=((j*W:Nat):Int):=(ke ..).symm;have i2:((j*W:Nat):Int)+(q:Int)=((j*W+q:Nat):Int):=(by push_cast;rfl);simp only[qcmp];simp (maxSteps:=9^7) only[↓qpre,aAb,aAg,aAc,P,R,i1,i2];(repeat refine And.intro (by first|omega|(unfold inI64;omega)) ?_);have h:=hid s.out.drew;have G:=hid V.out.drew;refine aAh κ (aOy (i:=j+1) (j:=q) (W:=W) (N:=N) (g:=w.heap.size) (by push_cast;rfl) rfl rfl ω E h.out.c0 h.out.c1 (h.out.cell HD.out.2.1)) rfl rfl ?_;rintro e w5 ⟨rfl,rfl⟩;have r:=hid h.out.drew;have nA:=hid G.out.drew;refine ⟨_,rfl,K _ ⟨r.out.c0,r.out.c1⟩,?_⟩;simp (maxSteps:=9^7) only[aAb,aAc];refine aAh κ (aOy (i:=j) (j:=q+1) (W:=W) (N:=N) (g:=w.heap.size) rfl (by push_cast;rfl) rfl ω nz r.out.c0 r.out.c1 (r.out.cell HD.out.2.2)) rfl rfl ?_
   rintro e w5 ⟨rfl,rfl⟩;have d:=hid r.out.drew;have H:=hid nA.out.drew;refine ⟨_,rfl,K _ ⟨d.out.c0,d.out.c1⟩,?_⟩;have i3:max ((cel a b (j+1) q:Nat):Int) ((cel a b j (q+1):Nat):Int)=((cel a b j q:Nat):Int):=(by rw[c];omega);simp (maxSteps:=9^7) only[↓qpre,aAb,aAg,aAc,i3];(repeat refine And.intro (by first|omega|(unfold inI64;omega)) ?_);have I:∃u,(gridL a b j (q+1))[j*W+q]? = some u:=⟨_,ac (by rw[aMz,U.out,C.out,hW,X];exact nu)⟩;obtain ⟨u,hu⟩:=I;have l:=d.out.store (j*W+q) (.int .i32 (cel a b j q:Nat));rw[z.out] at l;have J:=congrArg Option.isSome (d.out.cell hu);have nj:=hid (H.out.setCell (p:=⟨w.heap.size,j*W+q,none⟩) (aa _) (.int .i32 (cel a b j q:Nat)));have nk:=hid l;refine aBa (v:=.int .i32 (cel a b j q:Nat)) (b:=w.heap.size) (o:=j*W+q) κ rfl rfl J (d.out.frz _) rfl ⟨K _ ⟨l.c0,l.c1⟩,?_⟩;simp (maxSteps:=9^7) only[aAb];refine S _ _ ?_;clear S K D L P R i1 i2 i3 l J hu HD z HS c d H h G s V HX HY;go_wp2;go_roundw
   case rel=>exact ⟨q,ω,by go_num,nj,nk⟩
   simp[intOf]
theorem aGb:Elem prog 190 193 2 24:=aCa T
theorem aGf(l:List DV):∀u∈l.flatMap DV.cells,u.oneCell'=true:=by
 intro u b;obtain ⟨f,_,a⟩:=dF.1 b;simp only[DV.cells,ax,d7,iw] at a;rcases a with rfl | rfl<;>rfl
theorem aSl(w:World)(f:DV):Rd (w.alloc (.cells #[.int .i64 f.kind,.string f.line] 193)) (w.alloc (.cells #[.int .i64 f.kind,.string f.line] 193)).heap.size 2 (some ⟨w.heap.size,0,none⟩) 1 1 ([f].flatMap DV.cells):=
 ⟨rfl,aa _,fun _=>⟨_,0,rfl,by simp,fun j u a=>by
  rw[aO,World.cell?,au];simpa[DV.cells] using a⟩⟩
theorem aMi {k:Int}(b:a[j]? = some x):evs k (a.take (j+1))=evs k (a.take j)++[⟨k,x⟩]:=by
 rw[aB,b];simp[evs]
theorem aBt(k:Int)(a:List ByteArray):(evs k a).length=a.length:=by simp[evs]
def EdIs (L:List DV)(w:World)(e:Ending) (w':World):Prop:=CloneIs 193 2 L.length (L.flatMap DV.cells) w e w'
theorem aEe {n:Nat}{k:Int}(M:n<=1000000)(ha:Rd w w.heap.size 1 A n c (a.map .string)) :
  Calls prog 285 #[.int .i64 k,.slice A n c] w (EdIs (evs k a) w):=by
 have e:a.length=n:=by have:=ha.len;rw[az] at this;omega
 have B:=hid e;clear e;go_enter Tryz.func285,Tryz.ntmps285;go_wp2;go_loopw[5,10] (fun out i wr=>∃j:Nat,j<=n/\i=.int .i64 j/\Hid (Below w.heap.size w wr)/\Hid (wr.ownsRow w.heap.size 193 2 out j ((evs k (a.take j)).flatMap DV.cells))) (fun _ i _=>n-(intOf i).toNat)
 case atStart=>exact ⟨0,al _,rfl,hid (Below.refl _ _),by rw[bi];exact aA _ _ _ _⟩
 obtain ⟨j,J,rfl,o,q⟩:=hrel;have r:=o.out.size;by_cases z:j<n
 ·obtain ⟨E,F,x,rfl,v,C,G⟩:=ha.str z
  have I:=(o.out.cell (p:=⟨E,F+j,none⟩) v).trans G;have D:=hid C;clear C;have f:Below w.heap.size w (wr.alloc (.cells #[.int .i64 k,.string x] 193)):=o.out.alloc r _;have h:=q.out.alloc (.cells #[.int .i64 k,.string x] 193);have b:=hid f;have d:=hid h;clear f h q;go_wp2_with (at_builtin;refine aAl rfl (.tmp 14) (.tmp 18) 190 rfl aGb rfl rfl d.out (aSl _ ⟨k,x⟩) (aGf _) (by unfold maxLen;omega) O b.out.size ?_;intro K L l m y);have s:=hid (b.out.grown m b.out.size (fun g H=>(d.out.lt g H).1));have t:=hid l;clear l m y d b;go_roundw
  case rel=>
   refine ⟨j+1,O,by go_num,s,?_⟩;rw[aMi D.out,aJ];exact t
  simp[intOf];omega
 have u:j=n:=O;subst u;rw[ai (by rw[B.out];exact aa _)] at q;go_wp2;go_ret;exact ⟨_,rfl,by rw[aBt,B.out];exact q.out,o.out⟩
theorem bGe {n:Nat}(l:n<=1000000) :
  Calls prog 296 #[.slice none 0 0,.int .i64 n] w (CloneIs 193 2 0 [] w):=by
 cases n with
 | zero=>
  go_enter Tryz.func296,Tryz.ntmps296;go_wp2;go_ret;exact ⟨_,rfl,aA _ _ _ _,Below.refl _ _⟩
 | succ n=>
  obtain ⟨i,z,h,j,k,a,b⟩:=aGb.row;have c:=Lib.run_append_nil_zeros (P:=prog) w 190 3 190 193 i z .i64 .i64 aGb.und T h j (n+1) O O O (by rw[a];omega);have d:=aXc w (n+1) 0 193 O (by unfold maxLen;omega);obtain ⟨G,e⟩:∃G,G=grownCap w (n+1) 0 193:=⟨_,rfl⟩;rw[<-e] at c d
  have f:(w.drew.alloc (.cells (Builtin.zeroCells z.cells (n+1)++Builtin.zeroCells z.cells (G-(n+1))) 193)).ownsRow w.heap.size 193 2 (.slice (some ⟨w.heap.size,0,none⟩) 0 G) 0 []:=by
   refine ik w.drew _ G (aa _) d.2 ?_;simp[Builtin.zeroCells,b];omega
  have g:Below w.heap.size w (w.drew.alloc (.cells (Builtin.zeroCells z.cells (n+1)++Builtin.zeroCells z.cells (G-(n+1))) 193)):=(Below.refl _ _).drew.alloc (aa _) _;generalize w.drew.alloc (.cells (Builtin.zeroCells z.cells (n+1)++Builtin.zeroCells z.cells (G-(n+1))) 193)=m at *;go_enter Tryz.func296,Tryz.ntmps296;go_wp2_with (at_builtin;refine Lib.wpList_append_run _ rfl (.tmp 20) (.tmp 21) _ _ rfl _ _ rfl rfl _ _ c ?_);subst e;go_ret;exact ⟨_,rfl,f,g⟩
def RdLL (w:World)(B g:Nat)(Ls:List (List DV)):Prop:=
 ∀(k:Nat) (L:List DV),Ls[k]? = some L->∃A c,w.cell? ⟨g,k,none⟩=some (.slice A L.length c)/\Rd w B 2 A L.length c (L.flatMap DV.cells)
theorem aTq {a:List (List DV)}{L:List DV}(h:a[k]? = some L):(a.take (k+1)).flatten=(a.take k).flatten++L:=by
 rw[aB,h];simp
theorem aXw(a:List (List DV))(k:Nat):(a.take k).flatten.length<=a.flatten.length:=by
 have:(a.take k).flatten++(a.drop k).flatten=a.flatten:=by rw[<-ia,aY]
 rw[<-this,ae];omega
theorem aIi {a:List (List DV)}(R:a.length=q)(X:q<=1000)(K:g<w.heap.size)(Y:a.flatten.length<=1000000)(h:RdLL w w.heap.size g a) :
  Calls prog 286 #[.slice (some ⟨g,0,none⟩) q c] w (EdIs a.flatten w):=by
 have B:=hid R;clear R;go_enter Tryz.func286,Tryz.ntmps286;go_wp2;go_loopw[3,11] (fun s i wr=>∃k:Nat,k<=q/\i=.int .i64 k/\s=.int .i64 ((a.take k).flatten.length:Nat)/\wr=w) (fun _ i _=>q-(intOf i).toNat)
 case atStart=>exact ⟨0,al _,rfl,rfl,rfl⟩
 obtain ⟨k,hk,rfl,rfl,rfl⟩:=hrel;have C:=aXw a k;by_cases d:k<q
 ·have D:k<a.length:=by rw[B.out];exact d
  obtain ⟨L,hL⟩:∃L,a[k]? = some L:=⟨_,ac D⟩;obtain ⟨A,cc,P,I⟩:=h k L hL;have b:=aXw a (k+1);have f:=aTq hL;rw[f,ae] at b;have E:=hid f;clear f hL;generalize S:(a.take k).flatten.length=s at *;have U:=hid S;clear S;go_wp2;go_roundw
  case rel=>exact ⟨k+1,ω,by go_num,by rw[E.out,ae,U.out];push_cast;rfl,trivial⟩
  simp[intOf];omega
 obtain rfl:k=q:=ω;rw[ai (by rw[B.out];exact aa _)] at *;generalize T:a.flatten.length=N at *;have V:=hid T;clear T;have M:=bGe (n:=N) (w:=wr) Y;go_wp2_with fail;refine M.mono ?_;rintro e w1 ⟨v0,rfl,t,u⟩;have o:=hid u;have r:=hid t;clear M u t C d;go_wp2;go_loopw[6,27] (fun v i Q=>∃j:Nat,j<=k/\i=.int .i64 j/\Hid (Below wr.heap.size wr Q)/\Hid (Q.ownsRow wr.heap.size 193 2 v (a.take j).flatten.length ((a.take j).flatten.flatMap DV.cells))) (fun _ i _=>k-(intOf i).toNat)
 case atStart=>exact ⟨0,al _,rfl,o,r⟩
 clear o r;obtain ⟨j,hj,rfl,m,x⟩:=hrel;have l:=m.out.size;by_cases d:j<k
 ·have F:j<a.length:=by rw[B.out];exact d
  obtain ⟨L,hL⟩:∃L,a[j]? = some L:=⟨_,ac F⟩;obtain ⟨A,cc,P,I⟩:=h j L hL;have b:=aXw a (j+1);rw[V.out] at b;have f:=aTq hL;rw[f,ae] at b;have E:=hid f;clear f hL;have Z:=(m.out.cell (p:=⟨g,j,none⟩) K).trans P;have W:=hid ((I.below m.out).more l);clear I;have O:(a.take j).flatten.length+L.length<=1000000:=ω;go_wp2_with (at_builtin;refine aAl rfl (.tmp 31) (.tmp 32) 190 rfl aGb rfl rfl x.out W.out (aGf _) (by unfold maxLen;omega) ω l ?_;intro v7 w7 y z J);have G:=hid (m.out.grown z l (fun g K=>(x.out.lt g K).1));have H:=hid y;clear y z J x m;go_roundw
  case rel=>
   refine ⟨j+1,ω,by go_num,G,?_⟩;rw[E.out,aJ,ae];exact H
  simp[intOf];omega
 obtain rfl:j=k:=ω;rw[ai (by rw[B.out];exact aa _)] at x;go_wp2;go_ret;exact ⟨_,rfl,x.out,m.out⟩
def rowC (a b:List ByteArray)(i j:Nat):List Value:=(List.range (b.length+1)).map fun t=>Value.int .i32 ((if j<=t then cel a b i t else 0:Nat):Int)
theorem aZn(a b:List ByteArray)(i j:Nat):(rowC a b i j).length=b.length+1:=by simp[rowC]
theorem aMo(c:q<=b.length)(h:j<=q):(rowC a b i j)[q]? = some (.int .i32 (cel a b i q:Nat)):=by
 rw[rowC,aG,g9 O,kb,ao h]
theorem aVw(h:∀t,t<=b.length->j<=t->cel a b i t=0):rowC a b i j=List.replicate (b.length+1) (.int .i32 0):=by
 refine cR (by simp[rowC]) fun t c d=>?_;rw[aZn] at c;simp only[rowC,cS,cM,fN];split
 ·rw[h t O (by assumption)];rfl
 rfl
theorem bCm(a b:List ByteArray)(i:Nat):rowC a b i b.length=List.replicate (b.length+1) (.int .i32 0):=
 aVw fun t c d=>by rw[show t=b.length by omega];exact aYx a b i
theorem bHe(a b:List ByteArray):rowC a b a.length 0=List.replicate (b.length+1) (.int .i32 0):=
 aVw fun t _ _=>aSp a b t
theorem bJu(a b:List ByteArray){i j:Nat}:(rowC a b i (j+1)).set j (.int .i32 (cel a b i j:Nat))=rowC a b i j:=by
 refine cR (by simp[rowC]) fun t d e=>?_;rw[fD];simp only[rowC,cS,cM];split
 ·rename_i h;subst h;rw[ao (aa _)]
 rename_i h;by_cases c:j<=t
 ·rw[ao O,ao c]
 rw[ah O,ah c]
structure Rows2 (w:World) (B g h M:Nat) (xs ys:List Value):Prop where
 o1:w.ownsRow B 21 1 (.slice (some ⟨g,0,none⟩) M M) M xs
 o2:w.ownsRow B 21 1 (.slice (some ⟨h,0,none⟩) M M) M ys
 ne:g≠h
theorem aIq {M:Nat}{u:Value}(h:w.ownsRow B 21 1 (.slice (some ⟨g,0,none⟩) M M) M xs)(a:xs[k]? = some u):w.cell? ⟨g,k,none⟩=some u:=by
 rw[h.cellAt k (by rw[<-h.1];exact (aj.1 a).1),a]
section
variable {w w':World} {B g h M:Nat} {xs ys:List Value}
theorem Rows2.drew(H:Rows2 w B g h M xs ys):Rows2 w.drew B g h M xs ys:=⟨H.o1.drew,H.o2.drew,H.ne⟩
theorem Rows2.store(H:Rows2 w B g h M xs ys)(k:Nat)(u:Value):Rows2 (w.setCell ⟨h,k,none⟩ u) B g h M xs (ys.set k u):=
 ⟨aK H.o1 (fun e=>H.ne (by simpa[Value.ownBlock] using e)) u,(H.o2.stored k u).1,H.ne⟩
end
theorem bEa {B:Option Addr}{n:Nat}(hn:n<=400)(hm:m<=400)(ha:Rd w w.heap.size 1 A n ca (a.map .string))(hb:Rd w w.heap.size 1 B m cb (b.map .string)) :
  Calls prog 249 #[.slice A n ca,.slice B m cb] w fun e w'=>e=.returned (.int .i64 (lcs a b))/\Below w.heap.size w w':=by
 have N:=hid (show a.length=n by have:=ha.len;simpa using this);have K:=hid (show b.length=m by have:=hb.len;simpa using this);have nq:=ha.cap;have nr:=hb.cap;have hB:=aTp (w:=w) ω ω ha hb;go_enter Tryz.func249,Tryz.ntmps249;go_wp2_with fail;refine hB.mono ?_;rintro e w1 ⟨rfl,nJ⟩;clear hB;have hp:=aVi a b;rw[N.out,K.out] at hp;obtain ⟨nK,nL⟩:=hp;have nY:=hid (aFq a b);have nk:=hid (fun (q:Nat)=>bIe a b (pfx a b) q (aFq a b) (aVi a b).1 (aVi a b).2);generalize pfx a b=P at *;have ns:=hid nJ;clear nJ;go_wp2;refine aAe (fun w'=>Below w.heap.size w w') (qs 8) mixed κ ns.out.drew ?_;intro T M Q hT C I L;clear I;simp only[qcmp];simp (maxSteps:=9^7) only[↓qpre,aAb,aAg,aAc];(repeat refine And.intro (by first|omega|(unfold inI64;omega)) ?_);refine L _ _ ?_;clear L hT C;have D:=hid ns.out.drew;have r:=ha.cut1 (l:=P) (k:=n) nK (aa _);have s:=hb.cut1 (l:=P) (k:=m) nL (aa _);rw[ai (by rw[az,N.out];exact aa _),<-eO] at r;rw[ai (by rw[az,K.out];exact aa _),<-eO] at s;simp only[sliced,bW];generalize (if ca=P then A else Option.map (fun x=>x.add P) A)=A1 at *;generalize (if cb=P then B else Option.map (fun x=>x.add P) B)=B1 at *;clear ns;generalize w1.drew=w2 at *;clear ha hb N K nq nr nY;generalize a.drop P=a1 at *;generalize b.drop P=b1 at *;obtain ⟨n1,nM⟩:∃x,x=n-P:=⟨_,rfl⟩;obtain ⟨F,nN⟩:∃x,x=m-P:=⟨_,rfl⟩;rw[<-nM] at r ⊢;rw[<-nN] at s ⊢;have nZ:n1<=400:=ω;have n5:F<=400:=ω;have hP:P<=400:=ω;clear nM nN nK nL;generalize ca-P=c1 at *;generalize cb-P=c2 at *;have N:=hid (show a1.length=n1 by have:=r.len;simpa using this)
 have K:=hid (show b1.length=F by have:=s.len;simpa using this);have hE:=bLw (w:=w2) ω ω (r.to D.out D.out.size) (s.to D.out D.out.size);go_wp2_with fail;refine hE.mono ?_;rintro e w3 ⟨rfl,nO⟩;clear hE;have hq:=bNj a1 b1;rw[N.out,K.out] at hq;obtain ⟨nP,nQ⟩:=hq;have O:=hid (nk.out (sfx a1 b1) (bKo a1 b1) (by rw[N.out];exact nP) (by rw[K.out];exact nQ));rw[N.out,K.out] at O;clear nk;generalize sfx a1 b1=R at *;have nu:=hid (D.out.trans (nO.mono D.out.size));clear nO D;have i1:(n1:Int)-R=((n1-R:Nat):Int):=ω;have i2:(F:Int)-R=((F-R:Nat):Int):=ω;have nq:=r.cap;have nr:=s.cap;go_wp2;refine aAe (fun w'=>Below w.heap.size w w') (qs 14) mixed κ nu.out.drew ?_;intro T M Q hT C I L;clear I;simp only[qcmp];simp (maxSteps:=9^7) only[↓qpre,aAb,aAg,aAc,i1,i2];(repeat refine And.intro (by first|omega|(unfold inI64;omega)) ?_);refine L _ _ ?_;clear L hT C;have nw:=hid nu.out.drew;have r:=r.cut1 (l:=0) (k:=n1-R) (al _) ω;have s:=s.cut1 (l:=0) (k:=F-R) (al _) ω;rw[fB,<-ig] at r s;simp only[sliced,bW];generalize (if c1=0 then A1 else Option.map (fun x=>x.add 0) A1)=A2 at *;generalize (if c2=0 then B1 else Option.map (fun x=>x.add 0) B1)=B2 at *;clear nu;generalize w3.drew=w4 at *;clear N K nq nr i1 i2;generalize a1.take (n1-R)=d at *;generalize b1.take (F-R)=c at *;obtain ⟨n2,nR⟩:∃x,x=n1-R-0:=⟨_,rfl⟩;obtain ⟨Y,nS⟩:∃x,x=F-R-0:=⟨_,rfl⟩;rw[<-nR] at r ⊢;rw[<-nS] at s ⊢;have oe:n2<=400:=ω;have oh:Y<=400:=ω;have hR:R<=400:=ω;clear nR nS nP nQ nZ n5;generalize c1-0=c3 at *;generalize c2-0=c4 at *;have N:=hid (show d.length=n2 by have:=r.len;simpa using this)
 have K:=hid (show c.length=Y by have:=s.len;simpa using this);obtain ⟨M,I⟩:∃M:Nat,Y+1=M:=⟨_,rfl⟩;have ol:(Y:Int)+1=(M:Int):=ω;have E:=nw.out.size
 go_wp2_with first
  | (at_make;refine aFv rfl (.tmp 37) (.tmp 37) 321 rfl bMh w.heap.size M rfl rfl rfl rfl ω (by simp only[maxLen];omega) E ?_;intro w5 S J)
 have nC:=hid (nw.out.grown J E (fun g hg=>by cases hg))
 have nD:Hid (w5.ownsRow w.heap.size 21 1 (.slice (some ⟨w4.heap.size,0,none⟩) M M) M (rowC d c n2 0)):=by
  have:=S;rw[show List.replicate M (Value.int .i32 0)=rowC d c n2 0 by rw[<-N.out,bHe,K.out,I]] at this;exact this
 clear S J nw E;generalize w4.heap.size=g0 at *
 go_loopw[7,8] (fun nW i wr=>∃(j g:Nat),j<=n2/\i=.int .i64 ((j:Int)-1)/\nW=.slice (some ⟨g,0,none⟩) M M/\Hid (Below w.heap.size w wr)/\Hid (wr.ownsRow w.heap.size 21 1 (.slice (some ⟨g,0,none⟩) M M) M (rowC d c j 0)))
   (fun _ i _=>(intOf i+1).toNat)
 case atStart=>exact ⟨n2,g0,aa _,rfl,rfl,nC,nD⟩
 clear nC nD;obtain ⟨j,g,hj,rfl,rfl,U,HO⟩:=hrel
 cases j with
 | zero=>
  have HC:=hid (aIq HO.out (k:=0) (aMo (al _) (al _)));have hv:=aLl d c 0 0;rw[N.out] at hv;have HF:Hid (lcs a b=P+R+cel d c 0 0):=O;generalize cel d c 0 0=v at *;have c0:wr.cell? ⟨g,0,none⟩=some (.int .i32 v):=HC.out;have oq:0<M:=ω;go_wp2;go_ret;exact ⟨by rw[HF.out];push_cast;rfl,U.out⟩
 | succ j=>
  rw[show ((j+1:Nat):Int)-1=(j:Int) from ω];obtain ⟨ba,oa,x,rfl,n8,nT,Z⟩:=r.str (k:=j) ω;have HX:=hid nT;clear nT;have E:=U.out.size
  go_wp2_with first
   | (at_make;refine aFv rfl (.tmp 48) (.tmp 48) 321 rfl bMh w.heap.size M rfl rfl rfl rfl ω (by simp only[maxLen];omega) E ?_;intro w6 V t)
  have nE:=hid (U.out.grown t E (fun g hg=>by cases hg))
  have nF:Hid (Rows2 w6 w.heap.size g wr.heap.size M (rowC d c (j+1) 0) (rowC d c j Y)):=by
   refine ⟨HO.out.kept t (.inr (by simp[Value.ownBlock])),?_,gW (HO.out.lt g rfl).2⟩;rw[show rowC d c j Y=List.replicate M (Value.int .i32 0) by rw[<-K.out,bCm,K.out,I]];exact V
  have nG:w.heap.size<=wr.heap.size:=E;clear V t HO;generalize wr.heap.size=h at *
  go_loopw[10] (fun k nX=>∃q:Nat,q<=Y/\k=.int .i64 ((q:Int)-1)/\Hid (Below w.heap.size w nX)/\Hid (Rows2 nX w.heap.size g h M (rowC d c (j+1) 0) (rowC d c j q)))
    (fun k _=>(intOf k+1).toNat)
  case atStart=>exact ⟨Y,aa _,rfl,nE,nF⟩
  clear nE nF U;rename_i ow;obtain ⟨q,hq,rfl,U,W⟩:=hrel
  cases q with
  | zero=>
   go_wp2;go_roundw
   case rel=>exact ⟨j,h,ω,by go_num,rfl,U,hid W.out.o2⟩
   simp[intOf]
  | succ q=>
   rw[show ((q+1:Nat):Int)-1=(q:Int) from ω];obtain ⟨bb,ob,y,rfl,od,nU,ff⟩:=s.str (k:=q) ω;have HY:=hid nU;clear nU;have f:=aRm HX.out HY.out
   have HS:Hid (cel d c (j+1) (q+1)<=400/\cel d c (j+1) q<=400/\cel d c j (q+1)<=400):=by
    have h1:=aLl d c (j+1) (q+1);have h2:=aLl d c (j+1) q;have h3:=aLl d c j (q+1);have:=N.out;exact ⟨ω,ω,ω⟩
   have n7:c.length=Y:=K.out;have gD:=(aMo (a:=d) (b:=c) (i:=j+1) (j:=0) (q:=q+1) ω (al _));have gL:=(aMo (a:=d) (b:=c) (i:=j+1) (j:=0) (q:=q) ω (al _));have gR:=(aMo (a:=d) (b:=c) (i:=j) (j:=q+1) (q:=q+1) ω (aa _));have nm:=bJu d c (i:=j) (j:=q);have nH:∃u,(rowC d c j (q+1))[q]? = some u:=⟨_,ac (by rw[aZn];omega)⟩;obtain ⟨u,hu⟩:=nH;have H:=hid nm;have HU:=hid (aIq W.out.o2 hu);have HD:=hid (aIq W.out.o1 gD);have HL:=hid (aIq W.out.o1 gL);have nz:=hid (aIq W.out.o2 gR);have X:=hid (W.out.o2.frozenAt q);clear gD gL gR nm hu n7;have ou:q+1<M:=ω;go_wp2;refine aAe (fun w'=>Below w.heap.size w w') (qs 9) mixed κ U.out.drew ?_;intro T M0 Q hT C I L;have m0:M0 ⟨ba,oa+j,none⟩=some (.string x):=I _ _ fun w' hw=>(hw.cell (p:=⟨ba,oa+j,none⟩) n8).trans Z;have F:M0 ⟨bb,ob+q,none⟩=some (.string y):=I _ _ fun w' hw=>(hw.cell (p:=⟨bb,ob+q,none⟩) od).trans ff;clear I;simp only[qcmp];by_cases nj:x=y
   ·have e1:(x.toList == y.toList)=true:=by rw[nj];exact aW _
    rw[ao nj] at f;simp (maxSteps:=9^7) only[↓qpre,aAb,aAg,aAc,m0,F];(repeat refine And.intro (by first|omega|(unfold inI64;omega)) ?_);refine L _ _ ?_;clear L hT C m0 F e1;have e9:((cel d c j q:Nat):Int)=((cel d c (j+1) (q+1):Nat):Int)+1:=(by rw[f];push_cast;rfl);have G:=W.out.drew.store q (.int .i32 (cel d c j q:Nat));rw[H.out,e9] at G;have nA:=hid G;clear G e9 f;have c0:wr.drew.cell? ⟨g,q+1,none⟩=some (.int .i32 (cel d c (j+1) (q+1):Nat)):=HD.out;have c1:wr.drew.cell? ⟨h,q,none⟩=some u:=HU.out;have c2:wr.drew.frozen? ⟨h,q,none⟩=false:=X.out;have hv:cel d c (j+1) (q+1)<=400:=HS.out.1;have T1:∀z:Nat,((z:Int)+1).toNat=z+1:=fun z=>(by omega);generalize cel d c (j+1) (q+1)=v1 at *;have nB:Hid (Below w.heap.size w (wr.drew.setCell ⟨h,q,none⟩ (.int .i32 ((v1:Int)+1)))):=hid (U.out.drew.setCell (p:=⟨h,q,none⟩) nG _);clear HD HL nz HU X W U H HS;go_wp2;go_roundw
    case rel=>exact ⟨q,ω,by go_num,nB,nA⟩
    simp[intOf]
   have e1:=aBi nj;rw[ah nj] at f;simp (maxSteps:=9^7) only[↓qpre,aAb,aAg,aAc,m0,F];(repeat refine And.intro (by first|omega|(unfold inI64;omega)) ?_);refine L _ _ ?_;clear L hT C m0 F e1;have e9:((cel d c j q:Nat):Int)=max ((cel d c (j+1) q:Nat):Int) ((cel d c j (q+1):Nat):Int):=(by rw[f];omega);have G:=W.out.drew.drew.store q (.int .i32 (cel d c j q:Nat));rw[H.out,e9] at G;have nA:=hid G;clear G e9 f;have T1:∀z:Nat,((z:Int)+1).toNat=z+1:=fun z=>(by omega);go_wp2;refine aAq (fun w'=>∀p:Addr,w'.cell? p=wr.cell? p) (qs 13) [13] mixed κ (fun p=>rfl) ?_;intro T M0 Q Q2 hT C I L nV;have m0:M0 ⟨g,q,none⟩=some (.int .i32 (cel d c (j+1) q:Nat)):=I _ _ fun w' hw=>(hw _).trans HL.out;have F:M0 ⟨h,q+1,none⟩=some (.int .i32 (cel d c j (q+1):Nat)):=I _ _ fun w' hw=>(hw _).trans nz.out;clear I;simp only[qcmp];simp (maxSteps:=9^7) only[↓qpre,aAb,aAg,aAc,m0,F,T1];(repeat refine And.intro (by first|omega|(unfold inI64;omega)) ?_);refine L _ _ ?_;simp only[lates,List.map,qcmp];simp (maxSteps:=9^7) only[aAb];have nI:(wr.drew.drew.cell? ⟨h,q,none⟩).isSome=true:=congrArg Option.isSome HU.out;refine aBa (v:=.int .i32 (max ((cel d c (j+1) q:Nat):Int) ((cel d c j (q+1):Nat):Int))) (b:=h) (o:=q) κ rfl rfl nI X.out rfl ⟨trivial,?_⟩;simp (maxSteps:=9^7) only[aAb];refine nV _ _ ?_;have nB:=hid (U.out.drew.drew.setCell (p:=⟨h,q,none⟩) nG (.int .i32 (max ((cel d c (j+1) q:Nat):Int) ((cel d c j (q+1):Nat):Int))));clear L nV hT C m0 F nI HD HL nz HU X W U H HS;go_wp2;go_roundw
   case rel=>exact ⟨q,ω,by go_num,nB,nA⟩
   simp[intOf]
theorem Rd.front {sz n:Nat}(h:Rd w B sz A n c xs)(d:k<=n):Rd w B sz A k c (xs.take (k*sz)):=by
 refine ⟨by rw[aE,h.len,bP (cd _ d)],aw d h.cap,fun i=>?_⟩;obtain ⟨b,o,e,f,g⟩:=h.at_ O;refine ⟨b,o,e,f,fun j u a=>g j u ?_⟩;rw[fH] at a;split at a
 ·exact a
 cases a
theorem Rd.frontS {n:Nat}{l:List ByteArray}(h:Rd w B 1 A n c (l.map .string))(a:k<=n):Rd w B 1 A k c ((l.take k).map .string):=by
 have:=h.front a;rw[bW,<-ig] at this;exact this
theorem Rd.backS {n:Nat}{l:List ByteArray}(h:Rd w B 1 A n c (l.map .string))(a:k<=n):Rd w B 1 (if c=k then A else A.map (·.add k)) (n-k) (c-k) ((l.drop k).map .string):=by
 have:=h.cut1 a (aa _);rw[ai (by have:=h.len;omega),<-eO] at this;exact this
theorem aBp {c:Nat}{n:Nat}(h:w.ownsRow B e k v n xs)(p:c<=B):w.ownsRow c e k v n xs:=by
 obtain ⟨d,a⟩:=h;refine ⟨d,?_⟩;rcases a with a | ⟨g,cap,b,f,i,j,l,m,o⟩
 ·exact .inl a
 exact .inr ⟨g,cap,b,f,aw p i,j,l,m,o⟩
theorem EdIs.up {L b:List DV}{c d:World}{e:Ending}(h:EdIs L c e d)(a:Below w.heap.size w c)(hL:L=b):EdIs b w e d:=by
 subst hL;obtain ⟨v,f,g,i⟩:=h;exact ⟨v,f,aBp g a.size,a.trans (i.mono a.size)⟩
theorem aNa {P:Program}{bytes:Nat}(E:Elem P t e 1 bytes){a b c:Value}(ha:a.cells=#[a])(n:b.cells=#[b])(o:c.cells=#[c])(w:World) :
  (Instr.buildSlice t 3 #[(0,a),(1,b),(2,c)]).run P w=.ok (.slice (some ⟨w.heap.size,0,none⟩) 3 3) (w.alloc (.cells #[a,b,c] e)):=by
 obtain ⟨i,z,k,l,f,m,g⟩:=E.row
 obtain ⟨d,j⟩:∃d,z.cells=#[d]:=by
  have:=g
  match h:z.cells,this with
  | ⟨[d]⟩,_=>exact ⟨d,rfl⟩
 simp[Instr.buildSlice,bK E.und,sizeOf,typeInfo,k,f,zeroValue,l,Instr.fill,ha,n,o,j,newRow,show Array.range 3=#[0,1,2] from rfl]
theorem aNt {P:Program}{S:World->Prop}{a:Act}{w':World}{K:Act->World->Prop}{b:Option Tmp}{ty:TypeId}{x y z:Operand}{q:Bool}{g:Option (Tmp×Bool)}{u s r:Value}
  (c:(Instr.buildSlice t 3 #[(0,u),(1,v),(2,s)]).run P w=.ok r w') (d:a.eval x=u) (e:a.eval y=v) (f:a.eval z=s) (h:S w'/\K (a.put b r) w') :
  effq P S ⟨q,b,.buildSlice t 3 #[(0,x),(1,y),(2,z)],ty,g⟩ a w K:=by
 refine aQu (fun p i g=>?_) h;unfold execOp;simp only[gT,dc,dK,d,e,f,c,bT,cE,bI]
theorem bLm:Elem prog 339 190 1 24:=aCa T
structure GrR (w:World) (g bx W N:Nat) (xs:List Value) (out:Value):Prop where
 c0:w.cell? ⟨bx,0,none⟩=some (.slice (some ⟨g,0,none⟩) N N)
 c1:w.cell? ⟨bx,1,none⟩=some (.int .i64 W)
 cell:∀(k:Nat) (u:Value),xs[k]? = some u->w.cell? ⟨g,k,none⟩=some u
 lt:g<w.heap.size/\bx<w.heap.size
 ap:∀o,out.ownBlock=some o->o≠g/\o≠bx
section
variable {w w':World} {g bx W N:Nat} {xs:List Value} {out:Value}
theorem GrR.drew(h:GrR w g bx W N xs out):GrR w.drew g bx W N xs out:=⟨h.c0,h.c1,h.cell,h.lt,h.ap⟩
theorem GrR.app(h:GrR w g bx W N xs out) {d:Value}(f:w.grownBy w' out.ownBlock)(b:d.ownBlock=out.ownBlock\/d.ownBlock=some w.heap.size):GrR w' g bx W N xs d:=by
 have c:∀j:Nat,j<w.heap.size->(∀o,out.ownBlock=some o->o≠j)->∀k:Nat,w'.cell? ⟨j,k,none⟩=w.cell? ⟨j,k,none⟩:=fun j i a k=>
  cw (f.block j i (fun e=>a j e.symm rfl))
 refine ⟨(c _ h.lt.2 (fun o a=>(h.ap o a).2) 0).trans h.c0,(c _ h.lt.2 (fun o a=>(h.ap o a).2) 1).trans h.c1,fun k u l=>(c _ h.lt.1 (fun o a=>(h.ap o a).1) k).trans (h.cell k u l),⟨ag h.lt.1 f.size,ag h.lt.2 f.size⟩,fun o a=>?_⟩;rcases b with b | b
 ·exact h.ap o (b▸a)
 rw[b] at a;injection a with a;subst a;exact ⟨gX h.lt.1,gX h.lt.2⟩
theorem GrR.alloc(h:GrR w g bx W N xs out)(o:Obj):GrR (w.alloc o) g bx W N xs out:=by
 have a:=eI w o none;have b:∀j:Nat,j<w.heap.size->∀k:Nat,(w.alloc o).cell? ⟨j,k,none⟩=w.cell? ⟨j,k,none⟩:=fun j c k=>cw (a.block j c (fun e=>by cases e));exact ⟨(b _ h.lt.2 0).trans h.c0,(b _ h.lt.2 1).trans h.c1,fun k u d=>(b _ h.lt.1 k).trans (h.cell k u d),⟨ag h.lt.1 a.size,ag h.lt.2 a.size⟩,h.ap⟩
end
theorem rdLL3 {b c d:List DV}{e f g:Option Addr}{h i j:Nat}
  (m:Rd w w.heap.size 2 e b.length h (b.flatMap DV.cells)) (n:Rd w w.heap.size 2 f c.length i (c.flatMap DV.cells)) (o:Rd w w.heap.size 2 g d.length j (d.flatMap DV.cells)) :
  RdLL (w.alloc (.cells #[.slice e b.length h,.slice f c.length i,.slice g d.length j] t)) (w.alloc (.cells #[.slice e b.length h,.slice f c.length i,.slice g d.length j] t)).heap.size w.heap.size [b,c,d]:=by
 have a:Below w.heap.size w (w.alloc (.cells #[.slice e b.length h,.slice f c.length i,.slice g d.length j] t)):=(Below.refl _ _).alloc (aa _) _;intro k L l
 match k with
 | 0=>cases l;exact ⟨e,h,by rw[World.cell?,au];rfl,m.to a a.size⟩
 | 1=>cases l;exact ⟨f,i,by rw[World.cell?,au];rfl,n.to a a.size⟩
 | 2=>cases l;exact ⟨g,j,by rw[World.cell?,au];rfl,o.to a a.size⟩
 | k+3=>cases l
theorem aVz:∀a:List ByteArray,scrT a []=evs 2 a
 | []=>by simp[scrT,evs]
 | x::a=>by rw[scrT,aVz a];rfl
theorem aQe:∀b:List ByteArray,scrT [] b=evs 3 b
 | []=>by simp[scrT,evs]
 | y::b=>by rw[scrT,aQe b];rfl
theorem aYi {B:Option Addr}{n:Nat}(hn:n<=100000)(hm:m<=100000)(ha:Rd w w.heap.size 1 A n ca (a.map .string))(hb:Rd w w.heap.size 1 B m cb (b.map .string)) :
  Calls prog 259 #[.slice A n ca,.slice B m cb] w (EdIs (script a b) w):=by
 have Z:=hid (show a.length=n by have:=ha.len;simpa using this);have U:=hid (show b.length=m by have:=hb.len;simpa using this);have oC:=ha.cap;have oD:=hb.cap;have hB:=aTp (w:=w) ω ω ha hb;go_enter Tryz.func259,Tryz.ntmps259;go_wp2_with fail;refine hB.mono ?_;rintro e w1 ⟨rfl,ol⟩;clear hB;have hp:=aVi a b;rw[Z.out,U.out] at hp;obtain ⟨nS,oq⟩:=hp;have HS:=hid (show script a b=evs 1 (a.take (pfx a b))++rest (a.drop (pfx a b)) (b.drop (pfx a b)) from rfl);generalize script a b=oB at *;generalize pfx a b=P at *;have s:=hid ol;clear ol;have nW:=ha.frontS nS;have hE:=aEe (k:=1) (w:=w1) ω (nW.to s.out s.out.size);go_wp2_with fail;refine hE.mono ?_;rintro e w2 ⟨v6,rfl,nT,ou⟩;have nN:(evs 1 (a.take P)).length=P:=by rw[aBt,aE,Z.out];omega
 rw[nN] at nT;have nB:=hid nN;have nO:=hid (s.out.trans (ou.mono s.out.size));have nX:=hid (aBp nT s.out.size);have nu:=ha.backS nS;have nw:=hb.backS oq;clear hE nW ou nT nN s ha hb Z U;go_wp2;refine aAe (fun w'=>Below w.heap.size w w') (qs 8) mixed κ nO.out.drew ?_;intro T M Q hT nr hM hQ;clear hM;simp only[qcmp];simp (maxSteps:=9^7) only[↓qpre,aAb,aAg,aAc];(repeat refine And.intro (by first|omega|(unfold inI64;omega)) ?_);refine hQ _ _ ?_;clear hQ hT nr;simp only[sliced,bW];generalize (if ca=P then A else Option.map (fun x=>x.add P) A)=A1 at *;generalize (if cb=P then B else Option.map (fun x=>x.add P) B)=B1 at *;have f:=hid nO.out.drew;have G:=hid nX.out.drew;clear nO nX;generalize w2.drew=w3 at *;generalize evs 1 (a.take P)=L0 at *;generalize a.drop P=E at *;generalize b.drop P=F at *;obtain ⟨Y,nJ⟩:∃x,x=n-P:=⟨_,rfl⟩;obtain ⟨H,nK⟩:∃x,x=m-P:=⟨_,rfl⟩;rw[<-nJ] at nu ⊢;rw[<-nK] at nw ⊢;have oL:Y<=100000:=ω;have oM:H<=100000:=ω;have hP:P<=100000:=ω;clear nJ nK nS oq oC oD;generalize ca-P=c1 at *;generalize cb-P=c2 at *;have Z:=hid (show E.length=Y by have:=nu.len;simpa using this);have U:=hid (show F.length=H by have:=nw.len;simpa using this);by_cases nV:400<Y\/400<H
 ·have HR:Hid (oB=[L0,evs 2 E,evs 3 F].flatten):=by
   unfold Hid;rw[HS.out,rest,ao (by rw[Z.out,U.out];exact nV)];simp
  clear HS;obtain ⟨A6,c6,rfl,nF⟩:=aAd G.out;have z:=hid (Rd.of_own G.out nF);clear G;by_cases oK:400<Y
  case' neg=>have oI:400<H:=ω
  all_goals
   have nj:=aEe (k:=2) (w:=w3) ω (nu.to f.out f.out.size);go_wp2_with fail;refine nj.mono ?_;rintro e w4 ⟨v7,rfl,r,v⟩;rw[aBt,Z.out] at r;obtain ⟨A7,c7,rfl,nG⟩:=aAd r;have K:=hid (Rd.of_own r nG);have C:=hid (f.out.trans (v.mono f.out.size));have z:=hid (z.out.to v v.size);clear nj r v;have nk:=aEe (k:=3) (w:=w4) ω (nw.to C.out C.out.size);go_wp2_with fail;refine nk.mono ?_;rintro e w5 ⟨v8,rfl,D,t⟩;rw[aBt,U.out] at D;obtain ⟨A8,c8,rfl,nH⟩:=aAd D;have nC:=hid (Rd.of_own D nH);have V:=hid (C.out.trans (t.mono C.out.size));have z:=hid (z.out.to t t.size);have K:=hid (K.out.to t t.size);clear nk D t
   have nm:RdLL (w5.alloc (.cells #[.slice A6 P c6,.slice A7 Y c7,.slice A8 H c8] 190)) (w5.alloc (.cells #[.slice A6 P c6,.slice A7 Y c7,.slice A8 H c8] 190)).heap.size w5.heap.size [L0,evs 2 E,evs 3 F]:=by
    have h0:=z.out;have h1:=K.out;have h2:=nC.out;rw[show P=L0.length from nB.out.symm] at h0 ⊢;rw[show Y=(evs 2 E).length by rw[aBt,Z.out]] at h1 ⊢;rw[show H=(evs 3 F).length by rw[aBt,U.out]] at h2 ⊢;exact rdLL3 h0 h1 h2
   have nY:=V.out.alloc V.out.size (.cells #[.slice A6 P c6,.slice A7 Y c7,.slice A8 H c8] 190);have hC:=aIi (q:=3) (c:=3) rfl ω (by simp) (by have:=nB.out;have:=Z.out;have:=U.out;simp[aBt];omega) nm;have HC:=hid hC;have L:=hid nY;clear nm hC nY;go_wp2_with fail;refine HC.out.mono ?_;intro e w7 h7;have H7:=hid h7;obtain ⟨v9,rfl,_,_⟩:=h7;go_wp2;go_ret;exact (H7.out.up L.out HR.out.symm)
 have nJ:Y<=400:=ω;have nK:H<=400:=ω
 have HR:Hid (oB=L0++scrT E F):=by
  unfold Hid;rw[HS.out,rest,ah (by rw[Z.out,U.out];exact nV)]
 clear HS nV;have nZ:=bJw (w:=w3) nJ nK (nu.to f.out f.out.size) (nw.to f.out f.out.size);go_wp2_with fail;refine nZ.mono ?_;rintro e w4 ⟨g,bx,rfl,hG,v⟩;have n5:=aAf G.out v
 have n7:∀o,v6.ownBlock=some o->o≠g/\o≠bx:=fun o ho=>by
  have h1:=(G.out.lt o ho).2;have h2:=hG.ge;have h3:=hG.lo;exact ⟨ω,ω⟩
 rw[Z.out,U.out] at hG;obtain ⟨W,hW⟩:∃W:Nat,H+1=W:=⟨_,rfl⟩;obtain ⟨N,hN⟩:∃N:Nat,(Y+1)*W=N:=⟨_,rfl⟩;rw[hW,hN] at hG;have X:Hid (GrR w4 g bx W N (gridL E F 0 0) v6):=hid ⟨hG.c0,hG.c1,fun k u hu=>hG.cell hu,⟨hG.ge.2,hG.hi⟩,n7⟩;have C:=hid (f.out.trans (v.mono f.out.size));have n8:=hid n5;have nA:=hid (And.intro hW hN);have oJ:N<=160801:=by rw[<-hN,<-hW];exact Nat.mul_le_mul (show Y+1<=401 by omega) (show H+1<=401 by omega)
 clear nZ v hG n7 n5 f G hW hN;go_wp2
 go_loopw[6,8,9] (fun out i8 i9 wr=>∃(i q:Nat) (d:List DV),i<=Y/\q<=H/\i8=.int .i64 i/\i9=.int .i64 q/\Hid (Below w.heap.size w wr)/\Hid (GrR wr g bx W N (gridL E F 0 0) out)/\Hid (wr.ownsRow w.heap.size 193 2 out (P+d.length) ((L0++d).flatMap DV.cells))/\Hid (scrT E F=d++scrT (E.drop i) (F.drop q))/\d.length<=i+q)
   (fun _ i8 i9 _=>(Y-(intOf i8).toNat)+(H-(intOf i9).toNat))
 case atStart=>exact ⟨0,0,[],al _,al _,rfl,rfl,C,X,by rw[aR];exact n8,by rw[fB,fB];rfl,al _⟩
 clear C X n8;obtain ⟨i,q,d,hi,hq,rfl,rfl,S,X,HO,HD,hd⟩:=hrel;have oN:=S.out.size;have nM:Hid ((L0++d).length=P+d.length):=by rw[ae,nB.out];rfl
 by_cases h1:i<Y
 ·by_cases h2:q<H
  ·obtain ⟨ba,oa,x,rfl,nU,ow,ff⟩:=nu.str (k:=i) h1
   obtain ⟨bb,ob,y,rfl,oz,oA,nz⟩:=nw.str (k:=q) h2;have HX:=hid ow;have HY:=hid oA;clear ow oA;go_wp2;refine aAe (fun w'=>Below w.heap.size w w') (qs 10) mixed κ S.out.drew ?_;intro T M Q hT nr hM hQ;have m0:M ⟨ba,oa+i,none⟩=some (.string x):=hM _ _ fun w' hw=>(hw.cell (p:=⟨ba,oa+i,none⟩) nU).trans ff;have H:M ⟨bb,ob+q,none⟩=some (.string y):=hM _ _ fun w' hw=>(hw.cell (p:=⟨bb,ob+q,none⟩) oz).trans nz;clear hM;have S:=hid S.out.drew;have X:=hid X.out.drew;have HO:=hid HO.out.drew;simp only[qcmp];by_cases nL:x=y
   ·have e1:(x.toList == y.toList)=true:=by rw[nL];exact aW _
    simp (maxSteps:=9^7) only[↓qpre,aAb,aAg,aAc,m0,H];(repeat refine And.intro (by first|omega|(unfold inI64;omega)) ?_);refine hQ _ _ ?_;clear hQ hT nr m0 H e1;subst nL;have c0:=(S.out.cell (p:=⟨ba,oa+i,none⟩) nU).trans ff;generalize wr.drew=w5 at *;have s:=hid (S.out.alloc S.out.size (.cells #[.int .i64 1,.string x] 193));have nq:=hid (X.out.alloc (.cells #[.int .i64 1,.string x] 193));have O:=hid (HO.out.alloc (.cells #[.int .i64 1,.string x] 193));clear S X HO;go_wp2_with (at_builtin;refine aAl rfl (.tmp 71) (.tmp 77) 190 rfl aGb rfl rfl O.out (aSl _ ⟨1,x⟩) (aGf _) (by unfold maxLen;omega) ω s.out.size ?_;intro v7 w7 r R ns;have G:=hid r;have nD:=hid (s.out.grown R s.out.size (fun g hg=>(O.out.lt g hg).1));have nE:=hid (nq.out.app R ns);clear r R ns O s nq);go_roundw
    case rel=>
     refine ⟨i+1,q+1,d++[⟨1,x⟩],ω,ω,by go_num,by go_num,nD,nE,?_,?_,by simp;omega⟩
     ·rw[<-aH,aJ,ae,<-dI];exact G
     have h1:=HD.out;rw[aZc HX.out HY.out rfl] at h1;unfold Hid;rw[aH];exact h1
    simp[intOf];omega
   have e1:=aBi nL;simp (maxSteps:=9^7) only[↓qpre,aAb,aAg,aAc,m0,H];(repeat refine And.intro (by first|omega|(unfold inI64;omega)) ?_);refine hQ _ _ ?_;clear hQ hT nr m0 H e1;have od:=hid nL;have l1:(i+1)*W+q<N:=(by rw[<-nA.out.2];exact aIb (n:=Y) ω (by have:=nA.out.1;omega));have l2:i*W+(q+1)<N:=by rw[<-nA.out.2];exact aIb (n:=Y) ω (by have:=nA.out.1;omega)
   have gL:(gridL E F 0 0)[(i+1)*W+q]? = some (.int .i32 (cel E F (i+1) q:Nat)):=by
    have:=aGk (a:=E) (b:=F) (i:=0) (j:=0) (p:=i+1) (q:=q) (by have:=Z.out;omega) (by have:=U.out;omega) (.inl ω);rw[U.out,nA.out.1] at this;exact this
   have gR:(gridL E F 0 0)[i*W+(q+1)]? = some (.int .i32 (cel E F i (q+1):Nat)):=by
    have:=aGk (a:=E) (b:=F) (i:=0) (j:=0) (p:=i) (q:=q+1) (by have:=Z.out;omega) (by have:=U.out;omega) ω;rw[U.out,nA.out.1] at this;exact this
   have oe:=aOy (w:=wr.drew) (i:=i+1) (j:=q) (W:=W) (N:=N) (g:=g) (I:=(i:Int)+1) (by push_cast;rfl) rfl rfl ω l1 X.out.c0 X.out.c1 (X.out.cell _ _ gL);have oh:=hid (aOy (w:=wr.drew.drew) (i:=i) (j:=q+1) (W:=W) (N:=N) (g:=g) (J:=(q:Int)+1) rfl (by push_cast;rfl) rfl ω l2 X.out.drew.c0 X.out.drew.c1 (X.out.drew.cell _ _ gR));clear gL gR l1 l2;go_wp2_with fail;refine oe.mono ?_;rintro e w5 ⟨rfl,rfl⟩;clear oe;go_wp2_with fail;refine oh.out.mono ?_;rintro e w6 ⟨rfl,rfl⟩;clear oh;have S:=hid S.out.drew.drew;have X:=hid X.out.drew.drew;have HO:=hid HO.out.drew.drew;have c0:=(S.out.cell (p:=⟨ba,oa+i,none⟩) nU).trans ff;have c1:=(S.out.cell (p:=⟨bb,ob+q,none⟩) oz).trans nz;generalize wr.drew.drew.drew=w5 at *;by_cases hc:cel E F i (q+1)<=cel E F (i+1) q
   ·have HC:=hid hc
    have s:=hid (S.out.alloc S.out.size (.cells #[.int .i64 2,.string x] 193));have nq:=hid (X.out.alloc (.cells #[.int .i64 2,.string x] 193));have O:=hid (HO.out.alloc (.cells #[.int .i64 2,.string x] 193));clear S X HO;have oO:decide ((cel E F (i+1) q:Nat)>=((cel E F i (q+1):Nat):Int))=true:=aq ω;go_wp2_with (at_builtin;refine aAl rfl (.tmp 95) (.tmp 101) 190 rfl aGb rfl rfl O.out (aSl _ ⟨2,x⟩) (aGf _) (by unfold maxLen;omega) ω s.out.size ?_;intro v7 w7 r R ns;have G:=hid r;have nD:=hid (s.out.grown R s.out.size (fun g hg=>(O.out.lt g hg).1));have nE:=hid (nq.out.app R ns);clear r R ns O s nq);go_roundw
    case rel=>
     refine ⟨i+1,q,d++[⟨2,x⟩],ω,ω,by go_num,by go_num,nD,nE,?_,?_,by simp;omega⟩
     ·rw[<-aH,aJ,ae,<-dI];exact G
     have h1:=HD.out;rw[bHu HX.out HY.out od.out HC.out] at h1;unfold Hid;rw[aH];exact h1
    simp[intOf];omega
   have HC:=hid hc;have s:=hid (S.out.alloc S.out.size (.cells #[.int .i64 3,.string y] 193));have nq:=hid (X.out.alloc (.cells #[.int .i64 3,.string y] 193));have O:=hid (HO.out.alloc (.cells #[.int .i64 3,.string y] 193));clear S X HO;go_wp2_with (at_builtin;refine aAl rfl (.tmp 51) (.tmp 57) 190 rfl aGb rfl rfl O.out (aSl _ ⟨3,y⟩) (aGf _) (by unfold maxLen;omega) ω s.out.size ?_;intro v7 w7 r R ns;have G:=hid r;have nD:=hid (s.out.grown R s.out.size (fun g hg=>(O.out.lt g hg).1));have nE:=hid (nq.out.app R ns);clear r R ns O s nq);go_roundw
   case rel=>
    refine ⟨i,q+1,d++[⟨3,y⟩],ω,ω,by go_num,by go_num,nD,nE,?_,?_,by simp;omega⟩
    ·rw[<-aH,aJ,ae,<-dI];exact G
    have h1:=HD.out;rw[bEk HX.out HY.out od.out HC.out] at h1;unfold Hid;rw[aH];exact h1
   simp[intOf];omega
  have oE:q=H:=ω;subst oE
  have nP:Hid (scrT E F=d++evs 2 (E.drop i)):=by
   have h:=HD.out;rw[cI (l:=F) (by rw[U.out];exact aa _),aVz] at h;exact h
  clear HD;go_wp2;obtain ⟨A6,c6,rfl,nF⟩:=aAd HO.out;have z:=hid (Rd.of_own HO.out.drew nF);have f:=hid S.out.drew;clear HO X S;refine aAe (fun w'=>Below w.heap.size w w') [(true,0),(true,1),(true,2),(true,3),(true,5),(true,6),(true,7),(false,4),(false,8),(false,9),(false,10),(true,11)] mixed κ f.out ?_;intro T M Q hT nr hM hQ;clear hM;simp only[qcmp];simp (maxSteps:=9^7) only[↓qpre,aAb,aAg,aAc];(repeat refine And.intro (by first|omega|(unfold inI64;omega)) ?_);simp only[sliced,bW];have nQ:=nu.backS (k:=i) ω;have nR:=nw.backS (k:=q) ω;generalize (if c1=i then A1 else Option.map (fun x=>x.add i) A1)=oG at *;generalize (if c2=q then B1 else Option.map (fun x=>x.add q) B1)=oH at *;have nj:=aEe (k:=2) (w:=wr.drew) ω (nQ.to f.out f.out.size);have nk:=fun (w4:World) (h:Below w.heap.size w w4)=>aEe (k:=3) (w:=w4) ω (nR.to h h.size);refine aAh κ nj rfl rfl ?_;rintro e w4 ⟨v7,rfl,r,v⟩;rw[aBt,aN,Z.out] at r;obtain ⟨A7,c7,rfl,nG⟩:=aAd r;have K:=hid (Rd.of_own r nG);have C:=hid (f.out.trans (v.mono f.out.size));have z:=hid (z.out.to v v.size);clear r v nj;refine ⟨_,rfl,hT _ C.out,?_⟩;simp (maxSteps:=9^7) only[aAb,aAc];refine aAh κ (nk _ C.out) rfl rfl ?_;rintro e w5 ⟨v8,rfl,D,t⟩;rw[aBt,aN,U.out] at D;obtain ⟨A8,c8,rfl,nH⟩:=aAd D;have nC:=hid (Rd.of_own D nH);have V:=hid (C.out.trans (t.mono C.out.size));have z:=hid (z.out.to t t.size);have K:=hid (K.out.to t t.size);clear D t nk;refine ⟨_,rfl,hT _ V.out,?_⟩;simp (maxSteps:=9^7) only[aAb,aAc];have L:=hid (V.out.alloc V.out.size (.cells #[.slice A6 (P+d.length) c6,.slice A7 (Y-i) c7,.slice A8 (q-q) c8] 190))
  refine aNt (aNa bLm rfl rfl rfl _) rfl rfl rfl ⟨hT _ L.out,?_⟩;simp (maxSteps:=9^7) only[aAb,aAc]
  have nm:RdLL (w5.alloc (.cells #[.slice A6 (P+d.length) c6,.slice A7 (Y-i) c7,.slice A8 (q-q) c8] 190)) (w5.alloc (.cells #[.slice A6 (P+d.length) c6,.slice A7 (Y-i) c7,.slice A8 (q-q) c8] 190)).heap.size w5.heap.size [L0++d,evs 2 (E.drop i),evs 3 (F.drop q)]:=by
   have h0:=z.out;have h1:=K.out;have h2:=nC.out;rw[show P+d.length=(L0++d).length from nM.out.symm] at h0 ⊢;rw[show (Y-i)=(evs 2 (E.drop i)).length by rw[aBt,aN,Z.out]] at h1 ⊢;rw[show (q-q)=(evs 3 (F.drop q)).length by rw[aBt,aN,U.out]] at h2 ⊢;exact rdLL3 h0 h1 h2
  have HC:=hid (aIi (q:=3) (c:=3) rfl ω (by simp) (by simp only[el,mH,ae,dU,aBt,aN,nB.out,Z.out,U.out];omega) nm);clear nm;refine aAh κ HC.out rfl rfl ?_;intro e w7 h7;have H7:=hid h7;obtain ⟨v9,rfl,_,nI⟩:=h7;refine ⟨_,rfl,hT _ (L.out.trans (nI.mono L.out.size)),?_⟩;simp (maxSteps:=9^7) only[↓qpre,aAb,aAc];refine hQ _ _ ?_;clear hQ hT nr nI;go_wp2;go_ret;refine H7.out.up L.out ?_;rw[HR.out,nP.out];simp[evs,U.out]
 have oF:i=Y:=ω;subst oF
 have nP:Hid (scrT E F=d++evs 3 (F.drop q)):=by
  have h:=HD.out;rw[cI (l:=E) (by rw[Z.out];exact aa _),aQe] at h;exact h
 clear HD;go_wp2;obtain ⟨A6,c6,rfl,nF⟩:=aAd HO.out;have z:=hid (Rd.of_own HO.out.drew nF);have f:=hid S.out.drew;clear HO X S;refine aAe (fun w'=>Below w.heap.size w w') [(true,0),(true,1),(true,2),(true,3),(true,5),(true,6),(true,7),(false,4),(false,8),(false,9),(false,10),(true,11)] mixed κ f.out ?_;intro T M Q hT nr hM hQ;clear hM;simp only[qcmp];simp (maxSteps:=9^7) only[↓qpre,aAb,aAg,aAc];(repeat refine And.intro (by first|omega|(unfold inI64;omega)) ?_);simp only[sliced,bW];have nQ:=nu.backS (k:=i) ω;have nR:=nw.backS (k:=q) ω;generalize (if c1=i then A1 else Option.map (fun x=>x.add i) A1)=oG at *;generalize (if c2=q then B1 else Option.map (fun x=>x.add q) B1)=oH at *;have nj:=aEe (k:=2) (w:=wr.drew) ω (nQ.to f.out f.out.size);have nk:=fun (w4:World) (h:Below w.heap.size w w4)=>aEe (k:=3) (w:=w4) ω (nR.to h h.size);refine aAh κ nj rfl rfl ?_;rintro e w4 ⟨v7,rfl,r,v⟩;rw[aBt,aN,Z.out] at r;obtain ⟨A7,c7,rfl,nG⟩:=aAd r;have K:=hid (Rd.of_own r nG);have C:=hid (f.out.trans (v.mono f.out.size));have z:=hid (z.out.to v v.size);clear r v nj;refine ⟨_,rfl,hT _ C.out,?_⟩;simp (maxSteps:=9^7) only[aAb,aAc];refine aAh κ (nk _ C.out) rfl rfl ?_;rintro e w5 ⟨v8,rfl,D,t⟩;rw[aBt,aN,U.out] at D;obtain ⟨A8,c8,rfl,nH⟩:=aAd D;have nC:=hid (Rd.of_own D nH);have V:=hid (C.out.trans (t.mono C.out.size));have z:=hid (z.out.to t t.size);have K:=hid (K.out.to t t.size);clear D t nk;refine ⟨_,rfl,hT _ V.out,?_⟩;simp (maxSteps:=9^7) only[aAb,aAc];have L:=hid (V.out.alloc V.out.size (.cells #[.slice A6 (P+d.length) c6,.slice A7 (i-i) c7,.slice A8 (H-q) c8] 190))
 refine aNt (aNa bLm rfl rfl rfl _) rfl rfl rfl ⟨hT _ L.out,?_⟩;simp (maxSteps:=9^7) only[aAb,aAc]
 have nm:RdLL (w5.alloc (.cells #[.slice A6 (P+d.length) c6,.slice A7 (i-i) c7,.slice A8 (H-q) c8] 190)) (w5.alloc (.cells #[.slice A6 (P+d.length) c6,.slice A7 (i-i) c7,.slice A8 (H-q) c8] 190)).heap.size w5.heap.size [L0++d,evs 2 (E.drop i),evs 3 (F.drop q)]:=by
  have h0:=z.out;have h1:=K.out;have h2:=nC.out;rw[show P+d.length=(L0++d).length from nM.out.symm] at h0 ⊢;rw[show (i-i)=(evs 2 (E.drop i)).length by rw[aBt,aN,Z.out]] at h1 ⊢;rw[show (H-q)=(evs 3 (F.drop q)).length by rw[aBt,aN,U.out]] at h2 ⊢;exact rdLL3 h0 h1 h2
 have HC:=hid (aIi (q:=3) (c:=3) rfl ω (by simp) (by simp only[el,mH,ae,dU,aBt,aN,nB.out,Z.out,U.out];omega) nm);clear nm;refine aAh κ HC.out rfl rfl ?_;intro e w7 h7;have H7:=hid h7;obtain ⟨v9,rfl,_,nI⟩:=h7;refine ⟨_,rfl,hT _ (L.out.trans (nI.mono L.out.size)),?_⟩;simp (maxSteps:=9^7) only[↓qpre,aAb,aAc];refine hQ _ _ ?_;clear hQ hT nr nI;go_wp2;go_ret;refine H7.out.up L.out ?_;rw[HR.out,nP.out];simp[evs,Z.out]
def ren167:Go.Shelf.Ren:=⟨fun | 167=>225 | n=>Tryz.lays156_ren.f n,Tryz.lays156_ren.t,Tryz.lays156_ren.g⟩
theorem extra167:Builder.Extra prog ren167:={
 sizeBuilder:=T
 liesBuilder:=T
 t5:=dE
 a5:=gK
 z5:=fJ
 v5:=eC
 infoByte:=T
 cellsByte:=T
 sizeByte:=T
 neB5:=by decide }
end Go.Proofs.YtohblmepajhpaaaGreatDoor
