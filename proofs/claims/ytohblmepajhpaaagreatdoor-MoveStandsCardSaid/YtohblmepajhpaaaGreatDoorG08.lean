/- Contracts of functions that the law reaches; plain laws. -/
import Derived.Laws.Bits64b
import Derived.Laws.ShiftsVarLaws
import Derived.Test.YtohblmepajhpaaaGreatDoorG01
import Derived.Test.YtohblmepajhpaaaGreatDoorG05
import Derived.Test.YtohblmepajhpaaaGreatDoorG07
set_option maxHeartbeats 8000000
set_option maxRecDepth 100000
open Go.Lib (hid)
namespace Go.Proofs.YtohblmepajhpaaaGreatDoor
open Go.Proofs.Tryz (prog)
open Go.RowKit
variable {i W q r j k n base m c c2 sb:Nat}{l:List FLV}{w w' w0:World}{v bs ss:Value}{A A2:Option Addr}{ms:List MV}{s x:Int}{is js:List Nat}{ps:List (Nat×Nat)}{G:GT}{Z:Nat->Obj->Prop}
section
variable {A:Option Addr} {c:Nat} {l:List Int} {w:World}
theorem aGx(z:l.length<=1000000)(h:Rd w w.heap.size 1 A l.length c (l.map (.int .i64))) :
  Calls prog 72 #[.slice A l.length c] w (BoolBelow (rightP l) w):=by
 generalize hL:l.length=n at *;have r:=hid hL;clear hL;go_enter Tryz.func72,Tryz.ntmps72;go_wp2;go_loopw[7] (fun i wr=>∃k:Nat,k<=n/\i=.int .i64 k/\Below w.heap.size w wr/\Hid (∀(j:Nat) (p:Int),j<k->l[j]? = some p->-1<=p/\p<j)) (fun i _=>n-(intOf i).toNat)
 case atStart=>exact ⟨0,al _,rfl,Below.refl _ _,fun j p d=>absurd d (bN _)⟩
 obtain ⟨k,y,rfl,b,d⟩:=hrel;by_cases m:k<n
 ·obtain ⟨s,t,u,rfl,g,q,o⟩:=h.int_ m
  replace o:=(b.cell (p:=⟨s,t+k,none⟩) g).trans o;have f:=hid q;clear q;by_cases x:u < -1
  ·go_wp2
   go_ret;exact ⟨aAi (aJe f.out (.inl x)).symm,b⟩
  by_cases c2:(k:Int)<=u
  ·go_wp2
   go_ret;exact ⟨aAi (aJe f.out (.inr c2)).symm,b⟩
  go_wp2;go_roundw
  case rel=>
   refine ⟨k+1,O,by go_num,b,fun j p v a=>?_⟩;by_cases e:j=k
   ·subst e;rw[f.out] at a;cases a;omega
   exact d.out j p O a
  simp[intOf];omega
 go_wp2;go_ret;refine ⟨aAi (aKd fun j p a=>d.out j p ?_ a).symm,b⟩;have:=(aj.1 a).1;rw[r.out] at this;omega
theorem aYe(z:l.length<=1000000)(h:Rd w w.heap.size 1 A l.length c (l.map (.int .i64))) :
  Calls prog 31 #[.slice A l.length c] w (BoolBelow (rightP l) w):=by
 generalize hL:l.length=n at *;have r:=hid hL;clear hL;go_enter Tryz.func31,Tryz.ntmps31;go_wp2;go_loopw[3] (fun i wr=>∃k:Nat,k<=n/\i=.int .i64 k/\Below w.heap.size w wr/\Hid (∀(j:Nat) (p:Int),j<k->l[j]? = some p->-1<=p/\p<j)) (fun i _=>n-(intOf i).toNat)
 case atStart=>exact ⟨0,al _,rfl,Below.refl _ _,fun j p d=>absurd d (bN _)⟩
 obtain ⟨k,y,rfl,b,d⟩:=hrel;by_cases m:k<n
 ·obtain ⟨s,t,u,rfl,g,q,o⟩:=h.int_ m
  replace o:=(b.cell (p:=⟨s,t+k,none⟩) g).trans o;have f:=hid q;clear q;by_cases x:u < -1
  ·go_wp2
   go_ret;exact ⟨aAi (aJe f.out (.inl x)).symm,b⟩
  by_cases c2:(k:Int)<=u
  ·go_wp2
   go_ret;exact ⟨aAi (aJe f.out (.inr c2)).symm,b⟩
  go_wp2;go_roundw
  case rel=>
   refine ⟨k+1,O,by go_num,b,fun j p v a=>?_⟩;by_cases e:j=k
   ·subst e;rw[f.out] at a;cases a;omega
   exact d.out j p O a
  simp[intOf];omega
 go_wp2;go_ret;refine ⟨aAi (aKd fun j p a=>d.out j p ?_ a).symm,b⟩;have:=(aj.1 a).1;rw[r.out] at this;omega
def isG (l:List Int)(i:Int):Bool:=decide (0<=i) && decide (i<l.length) && rightP l
theorem bIf {i:Int}(f:l.length<=1000000)(h:Rd w w.heap.size 1 A l.length c (l.map (.int .i64))) :
  Calls prog 109 #[.slice A l.length c,.int .i64 i] w (BoolBelow (isG l i) w):=by
 have C:=aGx f h;by_cases d:0<=i
 ·by_cases c2:i<(l.length:Int)
  ·have e:isG l i=rightP l:=by unfold isG;simp[d,c2]
   rw[e];generalize rightP l=b at *;clear e;go_enter lY,kU;go_wp2_with (go_at_call 72;refine C.mono ?_;rintro e g ⟨rfl,a⟩);go_ret;exact ⟨rfl,a⟩
  have e:isG l i=false:=by unfold isG;simp[c2]
  go_enter lY,kU;go_wp2;go_ret;exact ⟨by first | rfl | exact aAi e.symm,Below.refl _ _⟩
 have e:isG l i=false:=by unfold isG;simp[d]
 go_enter lY,kU;go_wp2;go_ret;exact ⟨by first | rfl | exact aAi e.symm,Below.refl _ _⟩
theorem aRl {l:List Int}{i:Int}:isG l i=true↔0<=i/\i<l.length/\rightP l=true:=by
 unfold isG;simp[and_assoc]
theorem bCb {a b:Int}(H:l.length<=1000000)(h:Rd w w.heap.size 1 A l.length c (l.map (.int .i64))) :
  Calls prog 79 #[.slice A l.length c,.int .i64 a,.int .i64 b] w (BoolBelow (above l a b) w):=by
 have s:=bIf (i:=a) H h
 cases ha:isG l a with
 | false=>
  rw[ha] at s;have e:above l a b=false:=aVu fun r=>by rw[aRl.2 ⟨r.2.1,r.2.2.1,r.1⟩] at ha;cases ha
  go_enter mS,lZ;go_wp2_with fail;refine s.mono ?_;rintro e M ⟨rfl,d⟩;go_wp2;go_ret;exact ⟨aAi (by assumption:above l a b=false).symm,d⟩
 | true=>
  rw[ha] at s
  cases j:isG l b with
  | false=>
   have e:above l a b=false:=aVu fun r=>(by rw[aRl.2 ⟨r.2.2.2.1,r.2.2.2.2,r.1⟩] at j;cases j);go_enter mS,lZ;go_wp2_with fail;refine s.mono ?_;rintro e M ⟨rfl,d⟩;have t:=bIf (i:=b) H (h.to d d.size);rw[j] at t;go_wp2_with fail;refine t.mono ?_;rintro e S ⟨rfl,m⟩;go_wp2;go_ret;exact ⟨aAi (by assumption:above l a b=false).symm,d.trans (m.mono d.size)⟩
  | true=>
   obtain ⟨v,T,U⟩:=aRl.1 ha;obtain ⟨V,x,_⟩:=aRl.1 j;have z:=hid U;go_enter mS,lZ;go_wp2_with fail;refine s.mono ?_;rintro e M ⟨rfl,d⟩;have t:=bIf (i:=b) H (h.to d d.size);rw[j] at t;go_wp2_with fail;refine t.mono ?_;rintro e S ⟨rfl,m⟩;have B:=d.trans (m.mono d.size);clear s t m d ha j;generalize hL:l.length=n at *;have C:=hid hL;clear hL;go_wp2;go_loopw[2] (fun G wr=>∃f:Int,G=.int .i64 f/\-1<=f/\f<n/\Below w.heap.size w wr/\Hid (above l a b=above l a f)) (fun G _=>(intOf G+1).toNat)
   case atStart=>exact ⟨b,rfl,ω,x,B,rfl⟩
   obtain ⟨f,rfl,Y,q,j,N⟩:=hrel;by_cases I:a<f
   ·obtain ⟨W,X,u,rfl,F,O,J⟩:=h.int_ (k:=f.toNat) ω
    replace J:=(j.cell (p:=⟨W,X+f.toNat,none⟩) F).trans J;have o:=aZg z.out v I (by rw[C.out];exact q);have g:=aIf O;rw[eH ω] at g;have P:=aBl z.out (i:=f) ω (by rw[C.out];exact q);rw[g] at P o;have Q:=hid o;clear O g o;go_wp2;go_roundw
    case rel=>exact ⟨u,rfl,ω,ω,j,N.out.trans Q.out⟩
    simp[intOf];omega
   have K:=aTo z.out v (by omega:f<=a) (by rw[C.out];exact q);have e:above l a b=decide (a=f):=N.out.trans K;have L:=hid e;clear K e
   cases y:decide (a=f)
   ·have D:¬a=f:=cj y
    have R:=hid y;clear y;go_wp2;go_ret;exact ⟨aAi (by rw[L.out,R.out];exact (aEs D).1),j⟩
   have E:a=f:=aP y;clear y;subst E;go_wp2;go_ret;exact ⟨aAi (by rw[L.out];simp),j⟩
theorem aUo {i:Int}(Z:l.length<=1000000)(h:Rd w w.heap.size 1 A l.length c (l.map (.int .i64))) :
  Calls prog 40 #[.slice A l.length c,.int .i64 i] w (Ints (·=chain l i) w):=by
 have q:=aYe Z h
 cases v:rightP l with
 | false=>
  rw[v] at q;have e:chain l i=[]:=aSz (.inl v);rw[e];go_enter mU,l8;go_wp2_with fail;refine q.mono ?_;rintro e J ⟨rfl,j⟩;go_wp2;go_ret;exact ⟨none,0,[],rfl,Rd.none_ _ _ _,j,rfl⟩
 | true=>
  rw[v] at q;by_cases hi:i<(l.length:Int)
  ·have H:=hid v
   have L:=aNd (l:=l) (b:=i);clear v;generalize hL:l.length=n at *;have I:=hid hL;clear hL;go_enter mU,l8;go_wp2_with fail;refine q.mono ?_;rintro e J ⟨rfl,j⟩;go_wp2;go_loopw[1,5] (fun G X wr=>∃(d:Int) (a:List Int),G=.int .i64 d/\d<n/\-1<=max d (-1)/\Below w.heap.size w wr/\wr.ownsRow w.heap.size 3 1 X a.length (a.map (.int .i64))/\Hid (chain l i=a++chain l d)) (fun G _ _=>(intOf G+1).toNat)
   case atStart=>exact ⟨i,[],rfl,hi,ω,j,aA _ _ _ _,rfl⟩
   obtain ⟨d,a,rfl,t,_,y,z,B⟩:=hrel;by_cases x:0<=d
   ·obtain ⟨R,S,u,rfl,C,K,T⟩:=h.int_ (k:=d.toNat) ω
    have m:=aDw H.out x (by rw[I.out];exact t);have f:=aIf K;rw[eH ω] at f;have M:=aBl H.out (i:=d) ω (by rw[I.out];exact t);rw[f] at M m;have N:=hid m
    have O:a.length<=n:=by
     have:=congrArg List.length B.out;rw[ae] at this;omega
    have r:=z.alloc (.cells #[.int .i64 d] 3);have o:=y.alloc y.size (.cells #[.int .i64 d] 3);clear K f m;go_wp2_with (at_builtin;refine aAl rfl (.tmp 17) (.tmp 19) 36 rfl E28 rfl rfl r (aEu wr d) (aCn _) (by unfold maxLen;omega) ω o.size ?_;intro v7 w7 D E U;have s:=o.grown E o.size (fun g Y=>(r.lt g Y).1);have P:=(s.cell (p:=⟨R,S+d.toNat,none⟩) C).trans T);go_roundw
    case rel=>
     refine ⟨u,a++[d],rfl,ω,ω,s,?_,?_⟩
     ·rw[ae,aM];exact D
     rw[B.out,N.out];show Hid _;exact (by simp:a++d::chain l u=a++[d]++chain l u)
    simp[intOf];omega
   have e:chain l i=a:=(by rw[B.out,aOq ω,aR]);have Q:=hid e;clear e;obtain ⟨V,W,rfl,F⟩:=aAd z;go_wp2;go_ret;exact ⟨V,W,a,rfl,Rd.of_own z F,y,Q.out.symm⟩
  have e:chain l i=[]:=aSz (.inr ω);rw[e];go_enter mU,l8;go_wp2_with fail;refine q.mono ?_;rintro e J ⟨rfl,j⟩;go_wp2;go_ret;exact ⟨none,0,[],rfl,Rd.none_ _ _ _,j,rfl⟩
theorem bDn {a b:Int}(k:l.length<=1000000)(h:Rd w w.heap.size 1 A l.length c (l.map (.int .i64))) :
  Calls prog 67 #[.slice A l.length c,.int .i64 a,.int .i64 b] w (BoolBelow (above l a b) w):=by
 have j:=aNd (l:=l) (b:=b);go_enter Tryz.func67,Tryz.ntmps67;go_wp2_with fail;refine (aUo (i:=b) k h).mono ?_;rintro e m ⟨n,o,l1,rfl,f,d,rfl⟩;have C:=bMy (x:=a) (by unfold maxLen;omega) f;go_wp2_with fail;refine C.mono ?_;rintro e p ⟨rfl,g⟩;go_wp2;go_ret;exact ⟨rfl,d.trans (g.mono d.size)⟩
def underTo (l:List Int)(s:Int)(k:Nat):List Int:=((List.range k).map Int.ofNat).filter fun i=>above l s i
theorem aUg(l:List Int)(s:Int)(k:Nat):underTo l s (k+1)=underTo l s k++if above l s k=true then [(k:Int)] else []:=by
 unfold underTo;rw[eY,aM,bX];congr 1
 cases h:above l s k with
 | false=>simp[h]
 | true=>simp[h]
theorem aOl(l:List Int)(s:Int)(k:Nat):(underTo l s k).length<=k:=by
 unfold underTo;refine aw (bD _ _) (by simp)
theorem bIt {i:Int}(G:l.length<=1000000)(h:Rd w w.heap.size 1 A l.length c (l.map (.int .i64))) :
  Calls prog 39 #[.slice A l.length c,.int .i64 i] w (Ints (·=underTo l i l.length) w):=by
 go_enter Tryz.func39,Tryz.ntmps39;go_wp2;go_loopw[5,6] (fun E v wr=>∃k:Nat,k<=l.length/\v=.int .i64 k/\Below w.heap.size w wr/\wr.ownsRow w.heap.size 3 1 E (underTo l i k).length ((underTo l i k).map (.int .i64))) (fun _ v _=>l.length-(intOf v).toNat)
 case atStart=>exact ⟨0,al _,rfl,Below.refl _ _,aA _ _ _ _⟩
 obtain ⟨k,I,rfl,j,p⟩:=hrel;by_cases H:k<l.length
 ·have C:=bDn (a:=i) (b:=(k:Int)) G (h.to j j.size)
  have y:=aOl l i k;have d:=aUg l i k
  cases m:above l i k with
  | false=>
   rw[m] at C;rw[m] at d;simp only[bA,dD,aR] at d;have q:=hid d;clear d;go_wp2_with (go_at_call 67;refine C.mono ?_;rintro e x ⟨rfl,f⟩);go_roundw
   case rel=>
    refine ⟨k+1,O,by go_num,j.trans (f.mono j.size),?_⟩;rw[q.out];exact p.kept (aAu f (aa _)) (by cases (Value.ownBlock u5)<;>simp)
   simp[intOf];omega
  | true=>
   rw[m] at C;rw[m] at d;simp only[fj] at d;have q:=hid d;clear d
   go_wp2_with (first
    | (go_at_call 67;refine C.mono ?_;rintro e x ⟨rfl,f⟩;have n:=(j.trans (f.mono j.size)).alloc (j.trans (f.mono j.size)).size (.cells #[.int .i64 (k:Int)] 3);have o:=(p.kept (aAu f (aa _)) (by cases (Value.ownBlock u5)<;>simp)).alloc (.cells #[.int .i64 (k:Int)] 3))
    | (at_builtin;refine aAl rfl (.tmp 17) (.tmp 19) 36 rfl E28 rfl rfl o (aEu x (k:Int)) (aCn _) (by unfold maxLen;omega) O n.size ?_;intro J K s t z))
   go_roundw
   case rel=>
    refine ⟨k+1,O,by go_num,n.grown t n.size (fun g F=>(o.lt g F).1),?_⟩;rw[q.out,ae,aM];exact s
   simp[intOf];omega
 have r:k=l.length:=O;subst r;obtain ⟨B,D,rfl,u⟩:=aAd p;go_wp2;go_ret;exact ⟨B,D,_,rfl,Rd.of_own p u,j,rfl⟩
end
def wordsN (n:Nat):Nat:=(n+63) / 64
def wordF (W j:Nat):Nat:=W >>> (64*j) % 2 ^ 64
def wordsF (W k:Nat):List Value:=(List.range k).map fun j=>.int .u64 ((wordF W j:Nat):Int)
def SetW (w:World)(base:Nat)(v:Value)(n W:Nat):Prop:=
 True/\w.ownsRow base 166 1 v (wordsN n) (wordsF W (wordsN n))
theorem bNn(b:i<64):2 ^ i<18446744073709551616:=Nat.pow_lt_pow_right (a:=2) (m:=i) (n:=64) O b
theorem aRg(W j:Nat):wordF W j<18446744073709551616:=j7 _ (by decide)
theorem bAi(a:r<64)(b:i=64*q+r):(wordF W q).testBit r=W.testBit i:=by
 rw[wordF,ir,iB,aq a,db,b]
theorem bMj(d:r<64)(f:i=64*q+r):wordF (W ||| 2 ^ i) j=wordF W j ||| if q=j then 2 ^ r else 0:=by
 apply kg;intro b;rw[wordF,wordF,cu,ir,ir,iB,iB,cu,cF];by_cases a:b<64
 ·rw[aq a,db,db]
  congr 1;by_cases e:q=j
  ·rw[ao e,cF]
   by_cases c:r=b
   ·rw[aq c,aq O]
   rw[ak c,ak O]
  rw[ah e,mJ,ak O]
 rw[ak a,eT,eT,fW];split
 ·rw[cF,ak O]
 rw[mJ]
theorem aFj(h:q<k):(wordsF W k)[q]? = some (.int .u64 ((wordF W q:Nat):Int)):=by
 rw[wordsF,aG,g9 h];rfl
theorem bAq(d:r<64)(f:i=64*q+r):(wordsF W k).set q (.int .u64 ((wordF W q ||| 2 ^ r:Nat):Int))=wordsF (W ||| 2 ^ i) k:=by
 apply bM;intro j;rw[jt];by_cases a:j<k
 ·rw[aFj a,aFj a,bMj d f]
  by_cases e:q=j
  ·subst e
   rw[ao rfl,ao rfl,ao (by simpa[wordsF] using a)]
  rw[ah e,ah e,Nat.or_zero]
 have b:(wordsF W k)[j]? = none:=bH (by simpa[wordsF] using a);have c:(wordsF (W ||| 2 ^ i) k)[j]? = none:=bH (by simpa[wordsF] using a);rw[b,c];split
 ·rename_i e
  rw[ah (by subst e;simpa[wordsF] using a)]
 rfl
theorem aQn(k:Nat):wordsF 0 k=List.replicate k (.int .u64 0):=by
 apply bM;intro j;rw[List.getElem?_replicate];by_cases a:j<k
 ·rw[aFj a,ao a,wordF,Nat.zero_shiftRight,Nat.zero_mod];rfl
 rw[ah a,bH (by simpa[wordsF] using a)]
theorem split64(a:i<n)(b:n<=1000000):∃q r:Nat,((i:Int)).tdiv 64=(q:Int)/\((i:Int)).tmod 64=(r:Int)/\r<64/\q<wordsN n/\q<=1000000/\Hid (i=64*q+r):=by
 refine ⟨i / 64,i % 64,?_,?_,j7 _ (by decide),?_,O,hid ?_⟩
 ·rw[gG O];omega
 ·rw[gH O];omega
 ·unfold wordsN;omega
 omega
theorem SetW.kept {row:Option Nat}(h:SetW w base v n W)(b:w.grownBy w' row)(a:v.ownBlock=none\/v.ownBlock≠row):SetW w' base v n W:=⟨trivial,h.2.kept b a⟩
theorem SetW.below(h:SetW w base v n W)(a:Below w.heap.size w w'):SetW w' base v n W:=
 h.kept (aAu a (aa _)) (by cases v.ownBlock<;>simp)
theorem bNt(n:Nat):((n:Int)+64-1).tdiv 64=((wordsN n:Nat):Int):=by
 rw[gG O];unfold wordsN;omega
theorem bAo(a:i<=1000000):IntKind.u64.wrap (i:Int)=i:=by rw[fE];omega
theorem aOi(c:W<18446744073709551616)(d:i<64):bits .or .u64 (W:Int) (IntKind.u64.wrap (2 ^ i))=((W ||| 2 ^ i:Nat):Int):=by
 have a:=bNn d
 have e:IntKind.u64.wrap ((2:Int) ^ i)=((2 ^ i:Nat):Int):=by
  have b:((2:Int) ^ i)=((2 ^ i:Nat):Int):=by rw[m9];rfl
  rw[b,fE];generalize 2 ^ i=q at a ⊢;omega
 rw[e,bits_or_u64_nat _ _ c a]
theorem aLm(b:W<18446744073709551616):(bits .and .u64 ((W:Int) / 2 ^ i) 1 == 1)=W.testBit i:=by
 have e:(W:Int) / 2 ^ i=((W / 2 ^ i:Nat):Int):=by
  rw[Int.natCast_ediv,m9];rfl
 have a:W / 2 ^ i<18446744073709551616:=ip (Nat.div_le_self _ _) b;rw[e,show (1:Int)=((1:Nat):Int) from rfl,bits_and_u64_nat _ _ a (by decide),Nat.testBit_eq_decide_div_mod_eq,Nat.and_one_is_mod];generalize W / 2 ^ i % 2=m;by_cases h:m=1
 ·subst h;rfl
 rw[ak h];have:¬(m:Int)=1:=O;exact (aEs this).1
theorem aSi {P:Program}{a:Act}{ops:Array Oper}{rest:List Oper}{o:Oper}{Q:Exit->Act->World->Prop}(k:o.guard=none)(l c:Operand)(t:TypeId)
  (u:o.op=.makeSlice t l c) {e:TypeId} {bytes:Nat} {z:Value} (E:Elem P t e 1 bytes) (v:∀i,P.info? e=some i->i.zero=some z) (x:z.cells=#[z]) (base n:Nat)
  {L:Int} (y:a.eval l=.int .i64 L) (A:a.eval c=.int .i64 L) (q:L=(n:Int)) (B:bytes*n<=281474976710656) (m:n<=maxLen) (b:base<=w.heap.size)
  (C:∀w',w'.ownsRow base e 1 (.slice (some ⟨w.heap.size,0,none⟩) n n) n (List.replicate n z)->w.grownBy w' none->wpList P ops Q rest (a.put o.dst (.slice (some ⟨w.heap.size,0,none⟩) n n)) w') :
  wpList P ops Q (o::rest) a w:=by
 obtain ⟨i,D,p,r,g,h,s⟩:=E.row;have f:=v i p;refine mG w k l c t u base e i z 1 E.und p f g .i64 .i64 L L n y A q q (by rw[h];exact B) m b ?_;intro w' d j;rw[bW,x,kz] at d;exact C w' d j
theorem E77:Elem prog 167 166 1 8:=aCa T
theorem E66:Elem prog 147 166 1 8:=aCa T
theorem E70:Elem prog 128 4 1 1:=aCa T
theorem aNr {P:Program}{e:TypeId}{z:Value}(h:(zeroValue e).run P w=.ok z w):∀i,P.info? e=some i->i.zero=some z:=by
 intro i a
 cases b:i.zero with
 | none=>simp[zeroValue,typeInfo,a,b,unsupported] at h
 | some v=>
  have:(zeroValue e).run P w=.ok v w:=by simp[zeroValue,typeInfo,a,b]
  rw[this] at h;injection h with h;rw[h]
theorem zero76:∀i,prog.info? 166=some i->i.zero=some (.int .u64 0):=aNr (jD default)
theorem zero4:∀i,prog.info? 4=some i->i.zero=some (.bool false):=aNr (ci default)
theorem aQw(i:n<=1000000):Calls prog 141 #[.int .i64 n] w fun e w'=>∃v,e=.returned v/\SetW w' w.heap.size v n 0/\Below w.heap.size w w':=by
 have g:=bNt n;have d:wordsN n<=1000000:=by unfold wordsN;omega
 generalize c:wordsN n=k at *;have f:=hid c;clear c;go_enter Tryz.func141,Tryz.ntmps141;go_wp2_with (refine aSi rfl (.tmp 6) (.tmp 6) 167 rfl E77 zero76 rfl w.heap.size k (L:=(k:Int)) rfl rfl rfl O (by unfold maxLen;omega) (aa _) ?_;intro h a b);go_ret;refine ⟨_,rfl,⟨trivial,?_⟩,aFl b⟩;rw[f.out,aQn];exact a
theorem aZu(u:n<=1000000)(x:i<n)(h:SetW w base v n W) :
  Calls prog 142 #[v,.int .i64 i] w fun e w'=>e=.returned (.tuple #[])/\SetW w' base v n (W ||| 2 ^ i)/\w.grownBy w' v.ownBlock:=by
 have a:=h.2;obtain ⟨q,r,q1,A,f,c,m,o⟩:=split64 x u;have q2:=bAo (i:=i) O;have j:=hid (show ∀w',w'.ownsRow base 166 1 v (wordsN n) (wordsF (W ||| 2 ^ i) (wordsN n))->SetW w' base v n (W ||| 2 ^ i) from fun w' h=>⟨trivial,h⟩);generalize wordsN n=k at *;obtain ⟨g,cap,rfl,p,s⟩:=a.form O;have y:w.cell? ⟨g,q,none⟩=some (.int .u64 ((wordF W q:Nat):Int)):=(a.cellAt q O).trans (aFj c);have z:=a.frozenAt q;have d:=a.stored q (.int .u64 ((wordF W q ||| 2 ^ r:Nat):Int));have l:=hid d;have b:=hid (aRg W q);clear h d a;go_enter Tryz.func142,Tryz.ntmps142;go_wp2;rw[aOi b.out f];go_end0;refine ⟨rfl,j.out _ ?_,⟨rfl,rfl,rfl,by simp,fun k _ t=>il _ _ k _ (fun e=>t (by rw[e];rfl))⟩⟩;rw[<-bAq f o.out];exact l.out.1
theorem aWc(m:n<=1000000)(o:i<n)(h:SetW w base v n W) :
  Calls prog 143 #[v,.int .i64 i] w (BoolBelow (W.testBit i) w):=by
 have a:=h.2;obtain ⟨q,r,q1,s,d,c,e,f⟩:=split64 o m;have q2:=bAo (i:=i) O;generalize wordsN n=k at *;obtain ⟨g,cap,rfl,j,l⟩:=a.form O;have p:w.cell? ⟨g,q,none⟩=some (.int .u64 ((wordF W q:Nat):Int)):=(a.cellAt q O).trans (aFj c);have b:=hid (aRg W q);clear h a;go_enter Tryz.func143,Tryz.ntmps143;go_wp2;rw[aLm b.out,bAi d f.out];go_ret;exact ⟨rfl,Below.refl _ _⟩
theorem bGd(m:n<=1000000)(o:i<n)(h:SetW w base v n W) :
  Calls prog 98 #[v,.int .i64 i] w (BoolBelow (W.testBit i) w):=by
 have a:=h.2;obtain ⟨q,r,q1,s,d,c,e,f⟩:=split64 o m;have q2:=bAo (i:=i) O;generalize wordsN n=k at *;obtain ⟨g,cap,rfl,j,l⟩:=a.form O;have p:w.cell? ⟨g,q,none⟩=some (.int .u64 ((wordF W q:Nat):Int)):=(a.cellAt q O).trans (aFj c);have b:=hid (aRg W q);clear h a;go_enter Tryz.func98,Tryz.ntmps98;go_wp2;rw[aLm b.out,bAi d f.out];go_ret;exact ⟨rfl,Below.refl _ _⟩
theorem aYd:(W ||| 2 ^ i).testBit j=(W.testBit j || decide (i=j)):=by
 rw[cu,cF]
theorem SetW.ne {a c d:Nat}{b:Value}(_h:SetW w base v n W) (f:SetW w a b c d)(g:∀k,v.ownBlock=some k->k<a):v.ownBlock=none\/v.ownBlock≠b.ownBlock:=by
 cases h:v.ownBlock with
 | none=>exact .inl rfl
 | some k=>
  right;intro e;have:=(f.2.lt k e.symm).1;have:=g k h;omega
theorem bJg(hm:m<=maxLen)(h:RdM w w.heap.size A m c ms)(hn:n<=1000000) :
  Calls prog 119 #[.int .i64 n,.slice A m c] w fun e w'=>∃(v:Value) (W:Nat),e=.returned v/\SetW w' w.heap.size v n W/\(∀i,i<n->W.testBit i=!obsM ms i)/\Below w.heap.size w w':=by
 unfold maxLen at hm;have HL:=hid h.len;go_enter Tryz.func119,Tryz.ntmps119;go_wp2_with fail;refine (aQw hn).mono ?_;rintro e w1 ⟨v5,rfl,X,nr⟩;go_wp2;go_loopw[14] (fun L wr=>∃(k G:Nat),k<=m/\L=.int .i64 k/\Below w.heap.size w wr/\SetW wr w.heap.size v5 n G/\Hid (∀i,i<n->G.testBit i=obsM (ms.take k) i)) (fun L _=>m-(intOf L).toNat)
 case atStart=>exact ⟨0,0,al _,rfl,nr,X,fun i _=>by rw[bi];simp[obsM]⟩
 obtain ⟨k,G,hk,rfl,F,hs,Y⟩:=hrel;clear X;by_cases d:k<m
 ·obtain ⟨b0,o0,u,rfl,Z,hx,hu,h0,h1⟩:=h.get d
  replace h0:=(F.cell Z).trans h0;replace h1:=(F.cell Z).trans h1;have HX:=hid hx;clear hx;have f:=F.alloc F.size (.cells #[.int .i64 u.old,.slice u.A u.new.length u.c] 43);have l:=hs.below ((Below.refl wr.heap.size wr).alloc (aa _) (.cells #[.int .i64 u.old,.slice u.A u.new.length u.c] 43));have O:∀i:Nat,obsM (ms.take (k+1)) (i:Int)=(obsM (ms.take k) i || decide (u.old=(i:Int))):=fun i=>by rw[aB,HX.out,cZ,aSo]
  have M:=hid O;clear O;by_cases x:0<=u.old/\u.old<n
  ·obtain ⟨ns,nu⟩:=x
   obtain ⟨i,q⟩:∃i:Nat,u.old=(i:Int):=⟨u.old.toNat,ω⟩;rw[q] at h0 ns nu l f;have C:=aZu (i:=i) hn ω l;go_wp2_with (go_at_call 142;refine C.mono ?_;rintro e w2 ⟨rfl,nw,nz⟩);go_roundw
   case rel=>
    refine ⟨k+1,_,ω,by go_num,f.grown nz f.size (fun g hg=>(l.2.lt g hg).1),nw,fun j t=>?_⟩;rw[aYd,Y.out j t,M.out,q];congr 1;by_cases e:i=j
    ·subst e;simp
    rw[ak e,ak ω]
   simp[intOf];omega
  have P:∀j:Nat,j<n->¬u.old=(j:Int):=fun j t e=>by omega
  have nk:=hid P;clear P;have Q:∀j:Nat,j<n->G.testBit j=obsM (ms.take (k+1)) j:=fun j t=>by rw[M.out,Y.out j t,ak (nk.out j t),fX]
  have y:=hid Q;clear Q;by_cases c1:0<=u.old
  ·have c2:¬u.old<n:=fun c2=>x ⟨c1,c2⟩
   clear x;go_wp2;go_roundw
   case rel=>exact ⟨k+1,G,ω,by go_num,f,l,y⟩
   simp[intOf];omega
  clear x;go_wp2;go_roundw
  case rel=>exact ⟨k+1,G,ω,by go_num,f,l,y⟩
  simp[intOf];omega
 have nm:k=m:=ω;subst nm;have E:=Y.out;rw[ai (by rw[HL.out];omega)] at E;have HJ:=hid E;clear Y E d;go_wp2_with fail;refine (aQw hn).mono ?_;rintro e w2 ⟨v8,rfl,H,I⟩;have R:=hs.below I;have T:∀g,v5.ownBlock=some g->g<wr.heap.size:=fun g hg=>(hs.2.lt g hg).2;have U:=F.trans (I.mono F.size);obtain ⟨B8,J⟩:∃B,B=wr.heap.size:=⟨_,rfl⟩;rw[<-J] at H T;have V:w.heap.size<=B8:=by rw[J];exact F.size
 clear J hs I;go_wp2;go_loopw[35] (fun L wr=>∃(k S:Nat),k<=n/\L=.int .i64 k/\Below w.heap.size w wr/\SetW wr w.heap.size v5 n G/\SetW wr B8 v8 n S/\Hid (∀i,i<n->S.testBit i=(decide (i<k) && !obsM ms i))) (fun L _=>n-(intOf L).toNat)
 case atStart=>exact ⟨0,0,al _,rfl,U,R,H,fun i _=>by simp⟩
 obtain ⟨j,S,Y,rfl,r,s,b,K⟩:=hrel;clear R H U;by_cases d:j<n
 ·have C:=aWc (i:=j) hn d s
  rw[HJ.out j d] at C
  have o:∀i:Nat,i<n->(decide (i<j+1) && !obsM ms i)=((decide (i<j) && !obsM ms i) || (decide (j=i) && !obsM ms j)):=fun i _=>by
   by_cases e:j=i
   ·subst e;simp
   by_cases e2:i<j
   ·rw[aq e2,aq (by omega:i<j+1),ak e];simp
   rw[ak e2,ak (by omega:¬i<j+1),ak e];simp
  have HS:=hid o;clear o
  cases N:obsM ms j with
  | true=>
   rw[N] at C;have M:=hid N;clear N;go_wp2_with fail;refine C.mono ?_;rintro e w3 ⟨rfl,a⟩;go_wp2;go_roundw
   case rel=>
    refine ⟨j+1,S,ω,by go_num,r.trans (a.mono r.size),s.below a,b.below a,fun i q=>?_⟩;rw[K.out i q,HS.out i q,M.out];simp
   simp[intOf];omega
  | false=>
   rw[N] at C;have M:=hid N;clear N;go_wp2_with fail;refine C.mono ?_;rintro e w3 ⟨rfl,a⟩;have p:=b.below a;have z:=s.below a;have C2:=aZu (i:=j) hn d p;go_wp2_with fail;refine C2.mono ?_;rintro e w4 ⟨rfl,ff,nj⟩;have D:=r.trans (a.mono r.size);go_wp2;go_roundw
   case rel=>
    refine ⟨j+1,_,ω,by go_num,D.grown nj D.size (fun g hg=>aw V (p.2.lt g hg).1),z.kept nj (z.ne p T),ff,fun i q=>?_⟩;rw[aYd,K.out i q,HS.out i q,M.out];simp
   simp[intOf];omega
 have nq:j=n:=ω;subst nq;go_wp2;go_ret;refine ⟨v8,S,rfl,⟨b.1,aQm b.2 V⟩,fun i q=>?_,r⟩;rw[K.out i q,aq q,db]
theorem bKl(H:n<=1000000)(h:SetW w base v n W)(y:∀i,i<n->W.testBit i=!obsM ms i) :
  Calls prog 120 #[v,.int .i64 n] w (Ints (·=liveTo ms n) w):=by
 have z:=hid y;clear y;have f:∀k,(liveTo ms k).length<=k:=fun k=>by unfold liveTo;refine aw (bD _ _) (by simp)
 go_enter Tryz.func120,Tryz.ntmps120;go_wp2;go_loopw[5,8] (fun F u wr=>∃k:Nat,k<=n/\u=.int .i64 k/\Below w.heap.size w wr/\wr.ownsRow w.heap.size 3 1 F (liveTo ms k).length ((liveTo ms k).map (.int .i64))) (fun _ u _=>n-(intOf u).toNat)
 case atStart=>exact ⟨0,al _,rfl,Below.refl _ _,aA _ _ _ _⟩
 obtain ⟨k,I,rfl,c,o⟩:=hrel;by_cases l:k<n
 ·have C:=aWc (i:=k) H l (h.below c)
  rw[z.out k l] at C;have a:=aWm ms k;have A:=f k
  cases m:obsM ms k with
  | true=>
   rw[m] at C a;simp only[fj,aR] at a;have p:=hid a;clear a;go_wp2_with fail;refine C.mono ?_;rintro e x ⟨rfl,b⟩;go_wp2;go_roundw
   case rel=>
    refine ⟨k+1,O,by go_num,c.trans (b.mono c.size),?_⟩;rw[p.out];exact o.kept (aAu b (aa _)) (by cases (Value.ownBlock u5)<;>simp)
   simp[intOf];omega
  | false=>
   rw[m] at C a;simp only[bA,dD] at a;have p:=hid a;clear a
   go_wp2_with (first
    | (go_at_call 143;refine C.mono ?_;rintro e x ⟨rfl,b⟩;have d:=(c.trans (b.mono c.size)).alloc (c.trans (b.mono c.size)).size (.cells #[.int .i64 (k:Int)] 3);have j:=(o.kept (aAu b (aa _)) (by cases (Value.ownBlock u5)<;>simp)).alloc (.cells #[.int .i64 (k:Int)] 3))
    | (at_builtin;refine aAl rfl (.tmp 14) (.tmp 16) 36 rfl E28 rfl rfl j (aEu x (k:Int)) (aCn _) (by unfold maxLen;omega) O d.size ?_;intro J K r s B))
   go_roundw
   case rel=>
    refine ⟨k+1,O,by go_num,d.grown s d.size (fun g G=>(j.lt g G).1),?_⟩;rw[p.out,ae,aM];exact r
   simp[intOf];omega
 have q:k=n:=O;subst q;obtain ⟨D,E,rfl,t⟩:=aAd o;go_wp2;go_ret;exact ⟨D,E,_,rfl,Rd.of_own o t,c,rfl⟩
theorem bIp {l:List Int}(i:l.length<=1000000)(h:Rd w w.heap.size 1 A l.length c (l.map (.int .i64)))(q:m<=maxLen)(r:RdM w w.heap.size A2 m c2 ms) :
  Calls prog 97 #[.slice A l.length c,.slice A2 m c2] w (Ints (·=liveL l ms) w):=by
 have C:=aGx O h
 cases d:rightP l with
 | false=>
  rw[d] at C;have e:liveL l ms=[]:=by unfold liveL;rw[ah (by rw[d];simp)]
  rw[e];go_enter Tryz.func97,Tryz.ntmps97;go_wp2_with fail;refine C.mono ?_;rintro e j ⟨rfl,a⟩;go_wp2;go_ret;exact ⟨none,0,[],rfl,Rd.none_ _ _ _,a,rfl⟩
 | true=>
  rw[d] at C;have e:liveL l ms=liveTo ms l.length:=by unfold liveL liveTo;rw[ao d]
  rw[e];go_enter Tryz.func97,Tryz.ntmps97;go_wp2_with fail;refine C.mono ?_;rintro e j ⟨rfl,a⟩;go_wp2_with fail;refine (bJg q (r.to a a.size) i).mono ?_;rintro e s ⟨v,W,rfl,k,n,b⟩;go_wp2_with fail;refine (bKl i k n).mono ?_;rintro e t ⟨o,p,u,rfl,f,g,rfl⟩;go_wp2;go_ret;exact ⟨o,p,_,rfl,f,(a.trans (b.mono a.size)).trans (g.mono (aw a.size b.size)),rfl⟩
theorem bMq {L:List Int}(hn:n<=1000000)(hl:L.length<=1000000)(h:Rd w w.heap.size 1 A L.length c (L.map (.int .i64)))(hL:∀x∈L,0<=x/\x<n) :
  Calls prog 96 #[.int .i64 n,.slice A L.length c] w fun e w'=>∃(v:Value) (W:Nat),e=.returned v/\SetW w' w.heap.size v n W/\(∀i:Nat,i<n->W.testBit i=decide ((i:Int)∈L))/\Below w.heap.size w w':=by
 have P:=bNt n;have Q:wordsN n<=1000000:=by unfold wordsN;omega
 have z:=hid (fun (i:Nat) (s:i<n)=>split64 s hn);have b:=hid (show ∀(w':World) (v:Value) (W:Nat),SetW w' w.heap.size v n W↔w'.ownsRow w.heap.size 166 1 v (wordsN n) (wordsF W (wordsN n)) from fun w' v W=>⟨fun h=>h.2,fun h=>⟨trivial,h⟩⟩);generalize wordsN n=k at *;have B:=hid hL;clear hL;generalize t:L.length=m at *;have R:=hid t;clear t;go_enter Tryz.func96,Tryz.ntmps96;go_wp2_with (refine aSi rfl (.tmp 11) (.tmp 11) 147 rfl E66 zero76 rfl w.heap.size k (L:=(k:Int)) rfl rfl rfl ω (by unfold maxLen;omega) (aa _) ?_;intro T g l);have d:SetW T w.heap.size (.slice (some ⟨w.heap.size,0,none⟩) k k) n 0:=(b.out _ _ _).2 (by rw[aQn];exact g);have f:=aFl l;clear P g l;go_loopw[15] (fun K wr=>∃(j W:Nat),j<=m/\K=.int .i64 j/\Below w.heap.size w wr/\SetW wr w.heap.size (.slice (some ⟨w.heap.size,0,none⟩) k k) n W/\Hid (∀i:Nat,i<n->W.testBit i=decide ((i:Int)∈L.take j))) (fun K _=>m-(intOf K).toNat)
 case atStart=>exact ⟨0,0,al _,rfl,f,d,fun i _=>by rw[bi];simp⟩
 obtain ⟨j,W,hj,rfl,F,G,o⟩:=hrel;clear d f;by_cases M:j<m
 ·obtain ⟨U,V,u,rfl,H,I,N⟩:=h.int_ M
  replace N:=(F.cell (p:=⟨U,V+j,none⟩) H).trans N;obtain ⟨X,Y⟩:=B.out u (aC I);obtain ⟨i,s⟩:∃i:Nat,u=(i:Int):=⟨u.toNat,ω⟩;subst s;have S:=hid I;clear I;have y:=(b.out _ _ _).1 G;obtain ⟨q,r,q1,q3,O,J,Z,HI⟩:=z.out i ω;have q2:=bAo (i:=i) ω;have c0:wr.cell? ⟨w.heap.size,q,none⟩=some (.int .u64 ((wordF W q:Nat):Int)):=(y.cellAt q ω).trans (aFj J);have fr:=y.frozenAt q;have C:=hid (y.stored q (.int .u64 ((wordF W q ||| 2 ^ r:Nat):Int)));have D:=hid (aRg W q);clear y G;go_wp2;rw[aOi D.out O];go_roundw
  case rel=>
   refine ⟨j+1,W ||| 2 ^ i,ω,by go_num,F.setCell (aa _) _,(b.out _ _ _).2 (by rw[<-bAq O HI.out];exact C.out.1),fun a ha=>?_⟩;rw[aYd,o.out a ha,aB,S.out,cZ];by_cases e:i=a
   ·subst e;simp
   have:¬(a:Int)=(i:Int):=ω;simp[e,this]
  simp[intOf];omega
 have E:j=m:=ω;subst E;go_wp2;go_ret;refine ⟨_,W,rfl,G,fun i s=>?_,F⟩;rw[o.out i s,ai (by rw[R.out];omega)]
theorem aYy(w:World)(x:Int){q:Nat}(a:q=w.heap.size):Rd (w.alloc (.cells #[.int .i64 x] 3)) (w.alloc (.cells #[.int .i64 x] 3)).heap.size 1 (some ⟨q,0,none⟩) 1 1 ([x].map (.int .i64)):=by
 subst a;exact aEu w x
structure MvSt (w wr:World) (l:List Int) (ms:List MV) (s:Int) (g k W:Nat) (v8 ov:Value) (bl:List Bool):Prop where
 below:Below w.heap.size w wr
 set_:SetW wr w.heap.size v8 l.length W
 inn:wr.ownsRow g 4 1 (.slice (some ⟨g,0,none⟩) l.length l.length) l.length (bl.map .bool)
 bits:∀j:Nat,s<=(j:Int)->j<k->bl[j]? = some (mv l ms s j)
 row:wr.ownsRow (g+1) 3 1 ov (movedTo l ms s k).length ((movedTo l ms s k).map (.int .i64))
 sz:g+1<=wr.heap.size
theorem bFb {l:List Int}(hn:l.length<=1000000)(h:Rd w w.heap.size 1 A l.length c (l.map (.int .i64)))(hm:m<=maxLen)(h2:RdM w w.heap.size A2 m c2 ms) :
  Calls prog 80 #[.slice A l.length c,.slice A2 m c2,.int .i64 s] w (IntsF none 0 (·=moved l ms s) w):=by
 have C:=aGx ω h;by_cases nr:rightP l=true/\0<=s/\s<l.length
 ·obtain ⟨hr,nM,nZ⟩:=nr
  rw[hr] at C;have e:moved l ms s=movedTo l ms s l.length:=by unfold moved;rw[ao ⟨hr,nM,nZ⟩]
  rw[e];clear e;have HR:=hid hr;clear hr;go_enter kA,j9;go_wp2_with fail;refine C.mono ?_;rintro e w1 ⟨rfl,E⟩;go_wp2_with fail;refine (bIp hn (h.to E E.size) hm (h2.to E E.size)).mono ?_;rintro e w2 ⟨A3,c3,l3,rfl,nN,nO,nq⟩;have U:=E.trans (nO.mono E.size);have nF:l3.length<=1000000:=by rw[nq];exact aw (bGn l ms) hn
  have ns:∀x∈l3,0<=x/\x<(l.length:Int):=fun x hx=>by rw[nq] at hx;have:=aMv.1 hx;omega
  have CO:=bMq hn nF nN ns;have nA:=hid nq;clear nq
  go_wp2_with (first
   | (go_at_call 96;refine CO.mono ?_;rintro e w3 ⟨R,W,rfl,D,hW,nP⟩;have V:=U.trans (nP.mono U.size))
   | (refine aSi rfl (.tmp 31) (.tmp 31) 128 rfl E70 zero4 rfl w3.heap.size l.length (L:=(l.length:Int)) rfl rfl rfl ω (by unfold maxLen;omega) (aa _) ?_;intro w4 nj nB))
  have S:=D.kept nB (by cases R.ownBlock<;>simp);have O:∀g,R.ownBlock=some g->g<w3.heap.size:=fun g hg=>(D.2.lt g hg).2
  have nG:∀i:Nat,i<l.length->W.testBit i=!obsM ms i:=fun i hi=>by
   rw[hW i hi]
   cases ho:obsM ms i with
   | true=>exact ak fun hx=>by rw[nA.out,aMv] at hx;rw[hx.2.2.2] at ho;cases ho
   | false=>exact aq (by rw[nA.out];exact aMv.2 ⟨HR.out,ω,ω,ho⟩)
  have nV:=hid nG;have nH:=V.grown nB V.size (fun g hg=>by cases hg);have hB:w.heap.size<=w3.heap.size:=V.size;obtain ⟨g,nQ⟩:∃g,g=w3.heap.size:=⟨_,rfl⟩;have Y:w3.heap.size+1<=w4.heap.size:=by have:=(nj.lt w3.heap.size rfl).2;omega
  rw[<-nQ] at nj O hB Y ⊢;have n:SetW w4 w.heap.size R l.length W:=⟨S.1,aQm S.2 (aw U.size (aa _))⟩;have nu:(List.replicate l.length (Value.bool false))=(List.replicate l.length false).map Value.bool:=by simp
  rw[nu] at nj;obtain ⟨M,n5⟩:∃k:Nat,s=(k:Int):=⟨s.toNat,ω⟩;subst n5
  have nI:MvSt w w4 l ms (M:Int) g M W R (.slice none 0 0) (List.replicate l.length false):=
   ⟨nH,n,nj,fun j h1 h2=>by omega,by rw[aTg (mN _)];exact aA _ _ _ _,Y⟩
  clear nu n S D nj nH Y nQ nB hW nG CO nN ns nF E nO nP V U C nA;have nJ:decide ((M:Int)<0)=false:=ak ω;have nK:decide ((l.length:Int)<=(M:Int))=false:=ak ω;rw[nJ,nK,fX];clear nJ nK;go_loopw[10,11] (fun ov kv wr=>∃(k:Nat) (bl:List Bool),M<=k/\k<=l.length/\kv=.int .i64 k/\MvSt w wr l ms (M:Int) g k W R ov bl) (fun _ kv _=>l.length-(intOf kv).toNat)
  case atStart=>exact ⟨M,_,aa _,ω,rfl,nI⟩
  clear nI;obtain ⟨k,bl,oq,hk,rfl,hb,D,X,nk,Q,ou⟩:=hrel;have ol:=aIc l ms (M:Int) k;by_cases nE:k<l.length
  ·obtain ⟨b0,o0,p,rfl,nm,hx,g0⟩:=h.int_ nE
   have nw:=aIf hx;have hp:=aBl HR.out (i:=(k:Int)) ω ω;have u:=bNf (ms:=ms) (s:=(M:Int)) HR.out nM (k:=(k:Int)) ω ω;have y:=aVd l ms (M:Int) k;rw[nw] at hp u;have nL:decide ((M:Int)<=(k:Int))=true:=aq ω;rw[nL,db] at y;have oe:bl.length=l.length:=(by have:=X.1;simpa using this);have C5:=bGd (i:=k) hn nE D;rw[nV.out k nE] at C5;clear hx nw nL
   have step:∀(b:Bool) (wn:World) (nD:Value),mv l ms (M:Int) (k:Int)=b->Below w.heap.size w wn->SetW wn w.heap.size R l.length W->
     wn.ownsRow g 4 1 (.slice (some ⟨g,0,none⟩) l.length l.length) l.length ((bl.set k b).map .bool)->wn.ownsRow (g+1) 3 1 nD (movedTo l ms (M:Int) (k+1)).length ((movedTo l ms (M:Int) (k+1)).map (.int .i64))->g+1<=wn.heap.size->
     MvSt w wn l ms (M:Int) g (k+1) W R nD (bl.set k b):=fun b wn nD he h1 h2 h3 h4 h5=>
    ⟨h1,h2,h3,fun j od ow=>by
     by_cases e:j=k
     ·subst e;rw[cK ω,he]
     rw[gS (fun e2=>e e2.symm)];exact nk j od ω,h4,h5⟩
   have P:=hid step;clear step
   cases nR:obsM ms k with
   | true=>
    rw[nR] at C5 u;simp only[jN,eT] at u;rw[u] at y;simp only[bA,dD,aR] at y;have HS:=hid y;have HM:=hid u;clear y u;go_wp2_with fail;refine C5.mono ?_;rintro e F ⟨rfl,o⟩;have t:=hb.trans (o.mono hb.size);have r:=X.kept (aAu o (aa _)) (.inr (by simp[Value.ownBlock]));have v:=Q.kept (aAu o (aa _)) (by cases (Value.ownBlock u10)<;>simp);have n:=D.below o
    have ck:F.cell? ⟨g,k,none⟩=some (.bool (bl[k]' ω)):=by
     rw[r.cellAt k ω,aG,ac ω];rfl
    have fk:=r.frozenAt k;have g5:=(t.cell (p:=⟨b0,o0+k,none⟩) nm).trans g0;have d:=r.stored k (.bool false)
    have z:=n.kept d.2 (n.2.lt |> fun f=>by
     cases J:R.ownBlock with
     | none=>exact .inl rfl
     | some q=>right;intro e;injection e with e;have:=O q J;omega)
    have B:=v.kept d.2 (by
     cases J:(Value.ownBlock u10) with
     | none=>exact .inl rfl
     | some q=>right;intro e;injection e with e;have:=(v.lt q J).1;omega)
    have G:=t.grown d.2 t.size (fun q K=>by injection K with K;omega);have H:g+1<=(F.setCell ⟨g,k,none⟩ (.bool false)).heap.size:=by have:=o.size;simp;omega
    have cs:(F.setCell ⟨g,k,none⟩ (.bool false)).cell? ⟨g,k,none⟩=some (.bool false):=by
     rw[d.1.cellAt k ω,cK (by simp;omega)]
    go_wp2;go_roundw
    case rel=>
     refine ⟨k+1,bl.set k false,ω,ω,by go_num,P.out false _ _ HM.out G z ?_ ?_ H⟩
     ·have:=d.1;rwa [<-jb] at this
     rw[HS.out];exact B
    simp[intOf];omega
   | false=>
    rw[nR] at C5 u;simp only[iC,db] at u;by_cases nS:k=M
    ·rw[aq (by omega:(k:Int)=(M:Int)),ja] at u
     subst nS;rw[u] at y;simp only[fj] at y;have HS:=hid y;have HM:=hid u;clear y u;go_wp2_with fail;refine C5.mono ?_;rintro e F ⟨rfl,o⟩;have t:=hb.trans (o.mono hb.size);have r:=X.kept (aAu o (aa _)) (.inr (by simp[Value.ownBlock]));have v:=Q.kept (aAu o (aa _)) (by cases (Value.ownBlock u10)<;>simp);have n:=D.below o
     have ck:F.cell? ⟨g,k,none⟩=some (.bool (bl[k]' ω)):=by
      rw[r.cellAt k ω,aG,ac ω];rfl
     have fk:=r.frozenAt k;have g5:=(t.cell (p:=⟨b0,o0+k,none⟩) nm).trans g0;have d:=r.stored k (.bool true)
     have z:=n.kept d.2 (n.2.lt |> fun f=>by
      cases J:R.ownBlock with
      | none=>exact .inl rfl
      | some q=>right;intro e;injection e with e;have:=O q J;omega)
     have B:=v.kept d.2 (by
      cases J:(Value.ownBlock u10) with
      | none=>exact .inl rfl
      | some q=>right;intro e;injection e with e;have:=(v.lt q J).1;omega)
     have G:=t.grown d.2 t.size (fun q K=>by injection K with K;omega);have H:g+1<=(F.setCell ⟨g,k,none⟩ (.bool true)).heap.size:=by have:=o.size;simp;omega
     have cs:(F.setCell ⟨g,k,none⟩ (.bool true)).cell? ⟨g,k,none⟩=some (.bool true):=by
      rw[d.1.cellAt k ω,cK (by simp;omega)]
     have Z:=B.alloc (.cells #[.int .i64 (k:Int)] 3);have ff:=G.alloc G.size (.cells #[.int .i64 (k:Int)] 3);go_wp2_with (at_builtin;refine aAl rfl (.tmp 71) (.tmp 73) 36 rfl E28 rfl rfl Z (aYy (F.setCell ⟨g,k,none⟩ (.bool true)) (k:Int) (q:=F.heap.size) (by simp)) (aCn _) (by unfold maxLen;omega) ω (by have:=o.size;simp;omega) ?_;intro v9 w9 nC N n7);go_roundw
     case rel=>
      have I:∀q,(Value.ownBlock u10)=some q->g+1<=q:=fun q K=>(B.lt q K).1;refine ⟨k+1,bl.set k true,ω,ω,by go_num,P.out true _ _ HM.out (ff.grown N ff.size (fun q K=>by have:=I q K;omega)) ?_ ?_ ?_ ?_⟩
      ·refine (z.kept (eI _ _ none) (by cases R.ownBlock<;>simp)).kept N ?_
       cases J:R.ownBlock with
       | none=>exact .inl rfl
       | some q=>right;intro e;have:=I q e.symm;have:=O q J;omega
      ·have:=(d.1.alloc (.cells #[.int .i64 (k:Int)] 3)).kept N (.inr (fun e=>by have:=I g e.symm;omega))
       rwa [<-jb] at this
      ·rw[HS.out,ae,aM];exact nC
      have:=N.size;have:=o.size;simp at *;omega
     simp[intOf];omega
    rw[ak (by omega:¬(k:Int)=(M:Int)),fW] at u;have oh:¬(k:Int)=(M:Int):=ω;clear nS;by_cases nT:(M:Int)<=p
    ·rw[aq nT,db] at u
     have T:=nk p.toNat ω ω;rw[eH ω] at T
     cases nU:mv l ms (M:Int) p with
     | true=>
      rw[nU] at T u;rw[u] at y;simp only[fj] at y;have HS:=hid y;have HM:=hid u;clear y u;go_wp2_with fail;refine C5.mono ?_;rintro e F ⟨rfl,o⟩;have t:=hb.trans (o.mono hb.size);have r:=X.kept (aAu o (aa _)) (.inr (by simp[Value.ownBlock]));have v:=Q.kept (aAu o (aa _)) (by cases (Value.ownBlock u10)<;>simp);have n:=D.below o
      have ck:F.cell? ⟨g,k,none⟩=some (.bool (bl[k]' ω)):=by
       rw[r.cellAt k ω,aG,ac ω];rfl
      have fk:=r.frozenAt k;have g5:=(t.cell (p:=⟨b0,o0+k,none⟩) nm).trans g0
      have cp:F.cell? ⟨g,p.toNat,none⟩=some (.bool true):=by
       rw[r.cellAt p.toNat ω,aG,T];rfl
      have nW:0<=p:=ω;have nX:p<(l.length:Int):=ω;clear T;have d:=r.stored k (.bool true)
      have z:=n.kept d.2 (n.2.lt |> fun f=>by
       cases J:R.ownBlock with
       | none=>exact .inl rfl
       | some q=>right;intro e;injection e with e;have:=O q J;omega)
      have B:=v.kept d.2 (by
       cases J:(Value.ownBlock u10) with
       | none=>exact .inl rfl
       | some q=>right;intro e;injection e with e;have:=(v.lt q J).1;omega)
      have G:=t.grown d.2 t.size (fun q K=>by injection K with K;omega);have H:g+1<=(F.setCell ⟨g,k,none⟩ (.bool true)).heap.size:=by have:=o.size;simp;omega
      have cs:(F.setCell ⟨g,k,none⟩ (.bool true)).cell? ⟨g,k,none⟩=some (.bool true):=by
       rw[d.1.cellAt k ω,cK (by simp;omega)]
      have Z:=B.alloc (.cells #[.int .i64 (k:Int)] 3);have ff:=G.alloc G.size (.cells #[.int .i64 (k:Int)] 3);go_wp2_with (at_builtin;refine aAl rfl (.tmp 71) (.tmp 73) 36 rfl E28 rfl rfl Z (aYy (F.setCell ⟨g,k,none⟩ (.bool true)) (k:Int) (q:=F.heap.size) (by simp)) (aCn _) (by unfold maxLen;omega) ω (by have:=o.size;simp;omega) ?_;intro v9 w9 nC N n7);go_roundw
      case rel=>
       have I:∀q,(Value.ownBlock u10)=some q->g+1<=q:=fun q K=>(B.lt q K).1;refine ⟨k+1,bl.set k true,ω,ω,by go_num,P.out true _ _ HM.out (ff.grown N ff.size (fun q K=>by have:=I q K;omega)) ?_ ?_ ?_ ?_⟩
       ·refine (z.kept (eI _ _ none) (by cases R.ownBlock<;>simp)).kept N ?_
        cases J:R.ownBlock with
        | none=>exact .inl rfl
        | some q=>right;intro e;have:=I q e.symm;have:=O q J;omega
       ·have:=(d.1.alloc (.cells #[.int .i64 (k:Int)] 3)).kept N (.inr (fun e=>by have:=I g e.symm;omega))
        rwa [<-jb] at this
       ·rw[HS.out,ae,aM];exact nC
       have:=N.size;have:=o.size;simp at *;omega
      simp[intOf];omega
     | false=>
      rw[nU] at T u;rw[u] at y;simp only[bA,dD,aR] at y;have HS:=hid y;have HM:=hid u;clear y u;go_wp2_with fail;refine C5.mono ?_;rintro e F ⟨rfl,o⟩;have t:=hb.trans (o.mono hb.size);have r:=X.kept (aAu o (aa _)) (.inr (by simp[Value.ownBlock]));have v:=Q.kept (aAu o (aa _)) (by cases (Value.ownBlock u10)<;>simp);have n:=D.below o
      have ck:F.cell? ⟨g,k,none⟩=some (.bool (bl[k]' ω)):=by
       rw[r.cellAt k ω,aG,ac ω];rfl
      have fk:=r.frozenAt k;have g5:=(t.cell (p:=⟨b0,o0+k,none⟩) nm).trans g0
      have cp:F.cell? ⟨g,p.toNat,none⟩=some (.bool false):=by
       rw[r.cellAt p.toNat ω,aG,T];rfl
      have nW:0<=p:=ω;have nX:p<(l.length:Int):=ω;clear T;have d:=r.stored k (.bool false)
      have z:=n.kept d.2 (n.2.lt |> fun f=>by
       cases J:R.ownBlock with
       | none=>exact .inl rfl
       | some q=>right;intro e;injection e with e;have:=O q J;omega)
      have B:=v.kept d.2 (by
       cases J:(Value.ownBlock u10) with
       | none=>exact .inl rfl
       | some q=>right;intro e;injection e with e;have:=(v.lt q J).1;omega)
      have G:=t.grown d.2 t.size (fun q K=>by injection K with K;omega);have H:g+1<=(F.setCell ⟨g,k,none⟩ (.bool false)).heap.size:=by have:=o.size;simp;omega
      have cs:(F.setCell ⟨g,k,none⟩ (.bool false)).cell? ⟨g,k,none⟩=some (.bool false):=by
       rw[d.1.cellAt k ω,cK (by simp;omega)]
      go_wp2;go_roundw
      case rel=>
       refine ⟨k+1,bl.set k false,ω,ω,by go_num,P.out false _ _ HM.out G z ?_ ?_ H⟩
       ·have:=d.1;rwa [<-jb] at this
       rw[HS.out];exact B
      simp[intOf];omega
    rw[ak nT,eT] at u;rw[u] at y;simp only[bA,dD,aR] at y;have HS:=hid y;have HM:=hid u;clear y u;go_wp2_with fail;refine C5.mono ?_;rintro e F ⟨rfl,o⟩;have t:=hb.trans (o.mono hb.size);have r:=X.kept (aAu o (aa _)) (.inr (by simp[Value.ownBlock]));have v:=Q.kept (aAu o (aa _)) (by cases (Value.ownBlock u10)<;>simp);have n:=D.below o
    have ck:F.cell? ⟨g,k,none⟩=some (.bool (bl[k]' ω)):=by
     rw[r.cellAt k ω,aG,ac ω];rfl
    have fk:=r.frozenAt k;have g5:=(t.cell (p:=⟨b0,o0+k,none⟩) nm).trans g0;have d:=r.stored k (.bool false)
    have z:=n.kept d.2 (n.2.lt |> fun f=>by
     cases J:R.ownBlock with
     | none=>exact .inl rfl
     | some q=>right;intro e;injection e with e;have:=O q J;omega)
    have B:=v.kept d.2 (by
     cases J:(Value.ownBlock u10) with
     | none=>exact .inl rfl
     | some q=>right;intro e;injection e with e;have:=(v.lt q J).1;omega)
    have G:=t.grown d.2 t.size (fun q K=>by injection K with K;omega);have H:g+1<=(F.setCell ⟨g,k,none⟩ (.bool false)).heap.size:=by have:=o.size;simp;omega
    have cs:(F.setCell ⟨g,k,none⟩ (.bool false)).cell? ⟨g,k,none⟩=some (.bool false):=by
     rw[d.1.cellAt k ω,cK (by simp;omega)]
    go_wp2;go_roundw
    case rel=>
     refine ⟨k+1,bl.set k false,ω,ω,by go_num,P.out false _ _ HM.out G z ?_ ?_ H⟩
     ·have:=d.1;rwa [<-jb] at this
     rw[HS.out];exact B
    simp[intOf];omega
  have nY:k=l.length:=ω;subst nY;obtain ⟨A5,c5,rfl,n8⟩:=aAd Q;go_wp2;go_ret;exact ⟨A5,c5,_,rfl,Rd.of_own Q n8,hb,rfl,fun a e=>.inr (by have:=aSb Q a e;omega)⟩
 have e:moved l ms s=[]:=by unfold moved;rw[ah nr]
 rw[e];clear e
 cases hr:rightP l with
 | false=>
  rw[hr] at C;go_enter kA,j9;go_wp2_with fail;refine C.mono ?_;rintro e w1 ⟨rfl,E⟩;go_wp2;go_ret;exact ⟨none,0,[],rfl,Rd.none_ _ _ _,E,rfl,fun a e=>by cases e⟩
 | true=>
  rw[hr] at C
  have nz:s<0\/(l.length:Int)<=s:=by
   by_cases h0:s<0
   ·exact .inl h0
   exact .inr (by by_cases h1:(l.length:Int)<=s;exact h1;exact absurd ⟨hr,ω,ω⟩ nr)
  clear nr;by_cases h0:s<0
  ·clear nz
   go_enter kA,j9;go_wp2_with fail;refine C.mono ?_;rintro e w1 ⟨rfl,E⟩;go_wp2;go_ret;exact ⟨none,0,[],rfl,Rd.none_ _ _ _,E,rfl,fun a e=>by cases e⟩
  have h1:(l.length:Int)<=s:=ω;clear nz;go_enter kA,j9;go_wp2_with fail;refine C.mono ?_;rintro e w1 ⟨rfl,E⟩;go_wp2;go_ret;exact ⟨none,0,[],rfl,Rd.none_ _ _ _,E,rfl,fun a e=>by cases e⟩
theorem bEe(l:List Int)(ms:List MV)(s:Int):(underTo l s l.length).filter (fun x=>okTo ms s (chain l x))=moved l ms s:=by
 unfold moved;split
 ·rename_i h
  unfold underTo movedTo;rw[lh];refine dJ fun x a=>?_;obtain ⟨k,d,rfl⟩:=ce.1 a;have c:=bL.1 d;show (okTo ms s (chain l (k:Int)) && above l s (k:Int))=(decide (s<=(k:Int)) && mv l ms s (k:Int));by_cases b:s<=(k:Int)
  ·rw[aq b,db,<-bMd h.1 h.2.1 (k:=(k:Int)) O O b,Bool.and_comm]
  have:above l s (k:Int)=false:=by
   unfold above;refine ak fun a=>?_;have:=aGj a;omega
  rw[this,ak b];simp
 rename_i h;rw[eJ];intro x a;unfold underTo at a;rw[aX] at a;have ha:=a.2;unfold above at ha;have:=aGj (aP ha);exact absurd ⟨this.1,this.2.1,O⟩ h
theorem bEh {a:List Int}{b:Bool}(h:okTo ms s a=(b && okTo ms s (a.drop j)))(d:a[j]? = some x) :
  okTo ms s a=((b && !obsM ms x) && (decide (x=s) || okTo ms s (a.drop (j+1)))):=by
 obtain ⟨c,rfl⟩:=aj.1 d;rw[h,bp c];simp only[okTo,Bool.and_assoc]
theorem bCx {l:List Int}(hn:l.length<=1000000)(h:Rd w w.heap.size 1 A l.length c (l.map (.int .i64)))(hm:m<=maxLen)(h2:RdM w w.heap.size A2 m c2 ms) :
  Calls prog 14 #[.slice A l.length c,.slice A2 m c2,.int .i64 s] w (Ints (·=moved l ms s) w):=by
 rw[<-bEe];have nB:=aOl l s l.length;have V:=bIt (i:=s) ω h;obtain ⟨f,hf⟩:∃f:Int->Bool,f=fun x=>okTo ms s (chain l x):=⟨_,rfl⟩;rw[<-hf];have HF:Hid (∀x,f x=okTo ms s (chain l x)):=fun x=>by rw[hf]
 clear hf;generalize underTo l s l.length=un at *;go_enter Tryz.func14,Tryz.ntmps14;go_wp2_with fail;refine V.mono ?_;rintro e w1 ⟨A3,c3,un,rfl,nq,M,rfl⟩;clear V;go_wp2;go_loopw[7,9] (fun P kv wr=>∃k:Nat,k<=un.length/\kv=.int .i64 k/\Below w.heap.size w wr/\Below w1.heap.size w1 wr/\wr.ownsRow w1.heap.size 3 1 P ((un.take k).filter f).length (((un.take k).filter f).map (.int .i64))) (fun _ kv _=>un.length-(intOf kv).toNat)
 case atStart=>exact ⟨0,al _,rfl,M,Below.refl _ _,by rw[bi];exact aA _ _ _ _⟩
 obtain ⟨k,hk,rfl,T,J,F⟩:=hrel;have nC:((un.take k).filter f).length<=un.length:=aw (bD _ _) (by rw[aE];omega);by_cases nz:k<un.length
 ·obtain ⟨b3,o3,x,rfl,N,hx,g0⟩:=nq.int_ nz
  have g1:=(J.cell (p:=⟨b3,o3+k,none⟩) N).trans g0
  have W:(un.take (k+1)).filter f=(un.take k).filter f++if f x=true then [x] else []:=by
   rw[aB,hx,cZ,bX]
   cases nA:f x<;>simp[nA]
  have X:=hid W;clear W hx;have Y:=aUo (i:=x) ω (h.to T T.size);have Z:=aNd (l:=l) (b:=x);go_wp2_with fail;refine Y.mono ?_;rintro e w2 ⟨A4,c4,E,rfl,nr,K,O⟩;rw[<-O] at Z;have g:=T.trans (K.mono T.size);have a:=J.trans (K.mono J.size);have z:=F.kept (aAu K (aa _)) (by cases (Value.ownBlock u7)<;>simp);have HX:=hid ((HF.out x).trans (congrArg (okTo ms s) O.symm));clear O F K T J Y;obtain ⟨P,nj⟩:∃v,v=u7:=⟨_,rfl⟩;rw[<-nj] at z ⊢;clear nj;go_wp2;go_loopw[11,12] (fun nw jv wr=>∃(j:Nat) (b:Bool),j<=E.length/\nw=.bool b/\jv=.int .i64 j/\Below w2.heap.size w2 wr/\Hid (okTo ms s E=(b && okTo ms s (E.drop j)))) (fun _ jv _=>E.length-(intOf jv).toNat)
  case atStart=>exact ⟨0,true,al _,rfl,rfl,Below.refl _ _,by simp[Hid]⟩
  obtain ⟨j,b,hj,rfl,rfl,d,Q⟩:=hrel;by_cases nk:j<E.length
  ·obtain ⟨b4,o4,y,rfl,G,hy,y0⟩:=nr.int_ nk
   have y1:=(d.cell (p:=⟨b4,o4+j,none⟩) G).trans y0;have L:=hid (bEh Q.out hy);clear hy
   cases b with
   | false=>
    have o:Hid (okTo ms s E=(false && (decide (y=s) || okTo ms s (E.drop (j+1))))):=L.out.trans (by simp);by_cases u:y=s
    ·have I:Hid (f x=false):=HX.out.trans (o.out.trans (by simp))
     subst u;go_wp2;go_roundw
     case rel=>
      refine ⟨k+1,ω,by go_num,g.trans (d.mono g.size),a.trans (d.mono a.size),?_⟩;rw[X.out,I.out];simp only[bA,dD,aR];exact z.kept (aAu d (aa _)) (by cases P.ownBlock<;>simp)
     simp[intOf];omega
    obtain ⟨e1,_⟩:=aEs u;go_wp2;go_roundw
    case rel=>exact ⟨j+1,false,ω,rfl,by go_num,d,o.out.trans (by simp)⟩
    simp[intOf];omega
   | true=>
    have ff:=g.trans (d.mono g.size);have D:=bKw (x:=y) hm (h2.to ff ff.size)
    cases U:obsM ms y with
    | true=>
     rw[U] at D;have o:Hid (okTo ms s E=false):=L.out.trans (by simp[U]);clear U;by_cases u:y=s
     ·have I:Hid (f x=false):=HX.out.trans o.out
      subst u;go_wp2_with fail;refine D.mono ?_;rintro e w5 ⟨rfl,t⟩;have n:=d.trans (t.mono d.size);have y2:=(t.cell (p:=⟨b4,o4+j,none⟩) (ag G d.size)).trans y1;go_wp2;go_roundw
      case rel=>
       refine ⟨k+1,ω,by go_num,g.trans (n.mono g.size),a.trans (n.mono a.size),?_⟩;rw[X.out,I.out];simp only[bA,dD,aR];exact z.kept (aAu n (aa _)) (by cases P.ownBlock<;>simp)
      simp[intOf];omega
     obtain ⟨e1,_⟩:=aEs u;go_wp2_with fail;refine D.mono ?_;rintro e w5 ⟨rfl,t⟩;have y2:=(t.cell (p:=⟨b4,o4+j,none⟩) (ag G d.size)).trans y1;go_wp2;go_roundw
     case rel=>exact ⟨j+1,false,ω,rfl,by go_num,d.trans (t.mono d.size),o.out.trans (by simp)⟩
     simp[intOf];omega
    | false=>
     rw[U] at D;have o:Hid (okTo ms s E=(decide (y=s) || okTo ms s (E.drop (j+1)))):=L.out.trans (by simp[U]);clear U;by_cases u:y=s
     ·have I:Hid (f x=true):=HX.out.trans (o.out.trans (by simp[u]))
      subst u;go_wp2_with fail;refine D.mono ?_;rintro e w5 ⟨rfl,t⟩;have n:=d.trans (t.mono d.size);have y2:=(t.cell (p:=⟨b4,o4+j,none⟩) (ag G d.size)).trans y1;have C:=(a.trans (n.mono a.size)).alloc (a.trans (n.mono a.size)).size (.cells #[.int .i64 x] 3);have B:=(g.trans (n.mono g.size)).alloc (g.trans (n.mono g.size)).size (.cells #[.int .i64 x] 3);have r:=(z.kept (aAu n (aa _)) (by cases P.ownBlock<;>simp)).alloc (.cells #[.int .i64 x] 3);have g3:=((a.trans (n.mono a.size)).cell (p:=⟨b3,o3+k,none⟩) N).trans g0;go_wp2_with (at_builtin;refine aAl rfl (.tmp 51) (.tmp 56) 36 rfl E28 rfl rfl r (aEu w5 x) (aCn _) (by unfold maxLen;omega) ω C.size ?_;intro v9 w9 R H ns);go_roundw
      case rel=>
       refine ⟨k+1,ω,by go_num,B.grown H B.size (fun q S=>aw M.size (r.lt q S).1),C.grown H C.size (fun q S=>(r.lt q S).1),?_⟩;rw[X.out,I.out];simp only[fj];rw[ae,aM];exact R
      simp[intOf];omega
     obtain ⟨e1,_⟩:=aEs u;go_wp2_with fail;refine D.mono ?_;rintro e w5 ⟨rfl,t⟩;have y2:=(t.cell (p:=⟨b4,o4+j,none⟩) (ag G d.size)).trans y1;go_wp2;go_roundw
     case rel=>exact ⟨j+1,true,ω,rfl,by go_num,d.trans (t.mono d.size),o.out.trans (by simp[u])⟩
     simp[intOf];omega
  have nD:j=E.length:=ω;have hd:E.drop j=[]:=fS ω;have HE:Hid (f x=b):=HX.out.trans (Q.out.trans (by rw[hd];simp[okTo]));clear hd Q
  cases b with
  | false=>
   have I:Hid (f x=false):=HE.out;go_wp2;go_roundw
   case rel=>
    refine ⟨k+1,ω,by go_num,g.trans (d.mono g.size),a.trans (d.mono a.size),?_⟩;rw[X.out,I.out];simp only[bA,dD,aR];exact z.kept (aAu d (aa _)) (by cases P.ownBlock<;>simp)
   simp[intOf];omega
  | true=>
   have I:Hid (f x=true):=HE.out;have C:=(a.trans (d.mono a.size)).alloc (a.trans (d.mono a.size)).size (.cells #[.int .i64 x] 3);have B:=(g.trans (d.mono g.size)).alloc (g.trans (d.mono g.size)).size (.cells #[.int .i64 x] 3);have r:=(z.kept (aAu d (aa _)) (by cases P.ownBlock<;>simp)).alloc (.cells #[.int .i64 x] 3);have g3:=((a.trans (d.mono a.size)).cell (p:=⟨b3,o3+k,none⟩) N).trans g0;go_wp2_with (at_builtin;refine aAl rfl (.tmp 51) (.tmp 56) 36 rfl E28 rfl rfl r (aEu wr x) (aCn _) (by unfold maxLen;omega) ω C.size ?_;intro v9 w9 R H ns);go_roundw
   case rel=>
    refine ⟨k+1,ω,by go_num,B.grown H B.size (fun q S=>aw M.size (r.lt q S).1),C.grown H C.size (fun q S=>(r.lt q S).1),?_⟩;rw[X.out,I.out];simp only[fj];rw[ae,aM];exact R
   simp[intOf];omega
 have nm:k=un.length:=ω;subst nm;rw[ai (aa _)] at F;obtain ⟨A5,c5,rfl,nu⟩:=aAd F;go_wp2;go_ret;exact ⟨A5,c5,_,rfl,Rd.of_own F nu,T,rfl⟩
theorem aMy {xs:List Value}(C:n<=1000000)(p:Rd w w.heap.size 3 A n c xs)(q:∀u∈xs,u.oneCell'=true) :
  Calls prog 70 #[.slice A n c] w (CloneIs 40 3 n xs w):=by
 have s:∀(w:World) (a:Option Addr) (n c l m:Nat),(binOp .eql 22 (.slice a n c) (.slice none l m)).run prog w=.ok (.bool a.isNone) w:=fun w a n c l m=>iD w _ _ a n c l m jE
 cases A with
 | none=>
  have i:n=0:=by
   rcases cV n with k | k
   ·exact k
   obtain ⟨b,o,e,_⟩:=p.at_ k;cases e
  subst i;have r:xs=[]:=bC (p.len.trans (ed 3));have t:=hid r;clear r q;go_enter Tryz.func70,Tryz.ntmps70;go_wp2;go_ret;exact ⟨_,rfl,by rw[t.out];exact aA _ _ _ _,Below.refl _ _⟩
 | some a=>
  have f:(w.alloc (.cells #[] 40)).ownsRow w.heap.size 40 3 (.slice (some ⟨w.heap.size,0,none⟩) 0 0) 0 []:=ik w #[] 0 (aa _) (al _) (by simp);have d:Below w.heap.size w (w.alloc (.cells #[] 40)):=(Below.refl _ _).alloc (aa _) _;have v:=hid q;clear q;go_enter Tryz.func70,Tryz.ntmps70;go_wp2_with (at_builtin;refine aAl rfl (.tmp 5) (.tmp 6) 22 rfl aHy rfl rfl f (p.below d) v.out (by unfold maxLen;omega) O d.size ?_;intro z B h j x);rw[aO,aT] at h;go_ret;exact ⟨_,rfl,h,d.grown j d.size (fun g y=>(f.lt g y).1)⟩
theorem aNq {xs:List Value}(C:n<=1000000)(p:Rd w w.heap.size 2 A n c xs)(q:∀u∈xs,u.oneCell'=true) :
  Calls prog 71 #[.slice A n c] w (CloneIs 43 2 n xs w):=by
 have s:∀(w:World) (a:Option Addr) (n c l m:Nat),(binOp .eql 23 (.slice a n c) (.slice none l m)).run prog w=.ok (.bool a.isNone) w:=fun w a n c l m=>iD w _ _ a n c l m jF
 cases A with
 | none=>
  have i:n=0:=by
   rcases cV n with k | k
   ·exact k
   obtain ⟨b,o,e,_⟩:=p.at_ k;cases e
  subst i;have r:xs=[]:=bC (p.len.trans (ed 2));have t:=hid r;clear r q;go_enter Tryz.func71,Tryz.ntmps71;go_wp2;go_ret;exact ⟨_,rfl,by rw[t.out];exact aA _ _ _ _,Below.refl _ _⟩
 | some a=>
  have f:(w.alloc (.cells #[] 43)).ownsRow w.heap.size 43 2 (.slice (some ⟨w.heap.size,0,none⟩) 0 0) 0 []:=ik w #[] 0 (aa _) (al _) (by simp);have d:Below w.heap.size w (w.alloc (.cells #[] 43)):=(Below.refl _ _).alloc (aa _) _;have v:=hid q;clear q;go_enter Tryz.func71,Tryz.ntmps71;go_wp2_with (at_builtin;refine aAl rfl (.tmp 5) (.tmp 6) 23 rfl E22 rfl rfl f (p.below d) v.out (by unfold maxLen;omega) O d.size ?_;intro z B h j x);rw[aO,aT] at h;go_ret;exact ⟨_,rfl,h,d.grown j d.size (fun g y=>(f.lt g y).1)⟩
theorem aNu {D:Nat}{cs:Array Value}(E:w.heap[D]? = some (.cells cs 109 (0,0)))(H:cs[0]? = some (.slice A n c))
  (Q:Rd w w.heap.size 3 A n c (l.flatMap FLV.cells)) (I:l.length=n) (Z:n<=1000000) :
  Calls prog 61 #[.pointer (some ⟨D,0,none⟩)] w (IntsF none 0 (·=l.map FLV.parent) w):=by
 have t:=hid I;have R:w.cell? ⟨D,0,none⟩=some (.slice A n c):=by rw[ab E];exact H
 have J:=aAa E;clear I E H;go_enter Tryz.func61,Tryz.ntmps61;go_wp2;go_loopw[3,11] (fun O i wr=>∃k:Nat,k<=n/\i=.int .i64 k/\Below w.heap.size w wr/\wr.ownsRow w.heap.size 3 1 O k (((l.take k).map FLV.parent).map (.int .i64))) (fun _ i _=>n-(intOf i).toNat)
 case atStart=>exact ⟨0,al _,rfl,Below.refl _ _,by rw[bi];exact aA _ _ _ _⟩
 obtain ⟨k,W,rfl,j,r⟩:=hrel;by_cases F:k<n
 ·obtain ⟨x,y,f,e,h,G,L,s⟩:=T.rd_flat FLV.cells_len ω Q t.out F
  subst e;have S:=(j.cell (p:=⟨x,y+k*3,none⟩) h).trans (s 0 _ rfl);have U:=(j.cell (p:=⟨x,y+k*3+1,none⟩) h).trans (s 1 _ rfl);have V:=(j.cell (p:=⟨x,y+k*3+2,none⟩) h).trans (s 2 _ rfl);have K:=hid G;clear G s L;have m:=j.alloc j.size (.cells #[.int .i64 f.parent,.string f.msg,.slice f.A f.files.length f.c] 40);have u:=r.alloc (.cells #[.int .i64 f.parent,.string f.msg,.slice f.A f.files.length f.c] 40);have d:=m.alloc m.size (.cells #[.int .i64 f.parent] 3);have o:=u.alloc (.cells #[.int .i64 f.parent] 3);go_wp2_with (at_builtin;refine aAl rfl (.tmp 15) (.tmp 18) 36 rfl E28 rfl rfl o (aYy (wr.alloc (.cells #[.int .i64 f.parent,.string f.msg,.slice f.A f.files.length f.c] 40)) f.parent (q:=wr.heap.size+1) (by simp)) (aCn _) (by unfold maxLen;omega) ω d.size ?_;intro X Y z B M);go_roundw
  case rel=>
   refine ⟨k+1,ω,by go_num,d.grown B d.size (fun g P=>(o.lt g P).1),?_⟩;rw[aB,K.out,aM,aM];exact z
  simp[intOf];omega
 have v:k=n:=ω;subst v;rw[ai (by rw[t.out];omega)] at r;obtain ⟨A',N,rfl,C⟩:=aAd r;go_wp2;go_ret;have b:(l.map FLV.parent).length=k:=by rw[az];exact t.out
 exact ⟨A',N,l.map FLV.parent,by rw[b];rfl,by rw[b];exact Rd.of_own r C,j,rfl,fun a e=>.inr (aSb r a e)⟩
def FilesAtIs (w:World)(X:List Nat)(l:List FLV)(i:Int)(e:Ending) (w':World):Prop:=
 ∃(A:Option Addr) (c:Nat),e=.returned (.slice A (filesAt (l.map FLV.pl) i).length c)/\RdO3 w' X A c (filesAt (l.map FLV.pl) i)/\(filesAt (l.map FLV.pl) i).length<=17592186044416/\w'=w
theorem aYl {f:FLV}(h:l[k]? = some f):filesAt (l.map FLV.pl) (k:Int)=f.files:=by
 unfold filesAt;rw[ah O,dL,aG,h];rfl
theorem RdO3.none_(w:World)(X:List Nat):RdO3 w X none 0 []:=⟨RdF.none_ _ _,fun a h=>by cases h⟩
theorem bDl {g:Nat}{X:List Nat}{cs:Array Value}{i:Int}(d:w.heap[g]? = some (.cells cs 109 (0,0)))(h:cs[0]? = some (.slice A n c))
  (j:Rd w w.heap.size 3 A n c (l.flatMap FLV.cells)) (m:l.length=n) (_hn:n<=1000000) (o:∀f∈l,FlOk w X f) (C:i<n) :
  Calls prog 114 #[.pointer (some ⟨g,0,none⟩),.int .i64 i] w (FilesAtIs w X l i):=by
 have x:w.cell? ⟨g,0,none⟩=some (.slice A n c):=by rw[ab d];exact h
 have t:=aAa d;by_cases b:i<0
 ·have a:=hid (show filesAt (l.map FLV.pl) i=[] by unfold filesAt;rw[ao b])
  clear o j m d h;go_enter Tryz.func114,Tryz.ntmps114;go_wp2;go_ret;exact ⟨none,0,by rw[a.out];rfl,by rw[a.out];exact RdO3.none_ _ _,by rw[a.out];exact al _,rfl⟩
 obtain ⟨k,rfl⟩:∃k:Nat,i=(k:Int):=⟨i.toNat,O⟩;have u:k<n:=O;obtain ⟨z,B,f,e,v,q,r,s⟩:=T.rd_flat FLV.cells_len O j m u;subst e;have y:=s 2 _ rfl;have a:=hid (aYl q);have p:=hid (o f r);clear s q r o j m d h;go_enter Tryz.func114,Tryz.ntmps114;go_wp2;go_ret;exact ⟨f.A,f.c,by rw[a.out];rfl,by rw[a.out];exact p.out.files,by rw[a.out];exact p.out.few,rfl⟩
theorem aWx {f:FLV}(d:Lm w)(g:RdF w w.heap.size f.A f.files.length f.c f.files)(h:f.files.length<=17592186044416) :
  Calls prog 74 #[.agg #[.int .i64 f.parent,.string f.msg,.slice f.A f.files.length f.c]] w (BoolBelow (!treeOk f.files) w):=by
 have a:Below w.heap.size w (w.alloc (.cells #[.int .i64 f.parent,.string f.msg,.slice f.A f.files.length f.c] 40)):=(Below.refl _ _).alloc (aa _) _;have C:=aDa h (d.to a) (g.to a a.size);go_enter Tryz.func74,Tryz.ntmps74;go_wp2_with fail;refine C.mono ?_;rintro e i ⟨rfl,b⟩;clear C;go_wp2;go_ret;exact ⟨rfl,a.trans (b.mono a.size)⟩
theorem bCj(F:n<=maxLen)(G:Lm w)(h:RdFl w w.heap.size A n c l) :
  Calls prog 102 #[.slice A n c,.func (.func 74) #[] #[]] w fun e w'=>∃r:Int,e=.returned (.int .i64 r)/\decide (0<=r)=l.any (fun f=>!treeOk f.files)/\Below w.heap.size w w':=by
 unfold maxLen at F;have C:=hid h.len;go_enter Tryz.func102,Tryz.ntmps102;go_wp2;go_loopw[5,8] (fun _ i wr=>∃k:Nat,k<=n/\i=.int .i64 k/\Below w.heap.size w wr/\Hid ((l.take k).any (fun f=>!treeOk f.files)=false)) (fun _ i _=>n-(intOf i).toNat)
 case atStart=>exact ⟨0,al _,rfl,Below.refl _ _,by rw[bi];rfl⟩
 obtain ⟨k,H,rfl,b,v⟩:=hrel;by_cases p:k<n
 ·obtain ⟨I,J,u,rfl,d,x,y,q,s,t⟩:=h.get p
  replace q:=(b.cell d).trans q;replace s:=(b.cell d).trans s;replace t:=(b.cell d).trans t;obtain ⟨z,B,_⟩:=h.parts u y;have D:=hid x;clear x;have a:=aWx (G.to b) (z.to b b.size) B;clear z B
  cases j:treeOk u.files with
  | false=>
   rw[j] at a;have m:=hid (show l.any (fun f=>!treeOk f.files)=true from bZ.2 ⟨u,y,by rw[j];rfl⟩);clear j;go_wp2_with fail;refine a.mono ?_;rintro e E ⟨rfl,g⟩;clear a;go_wp2;go_ret;refine ⟨_,rfl,?_,b.trans (g.mono b.size)⟩;rw[m.out,aq O]
  | true=>
   rw[j] at a
   have m:=hid (show (l.take (k+1)).any (fun f=>!treeOk f.files)=false by
    rw[aB,D.out,cZ,iU,v.out];simp[j])
   clear j;go_wp2_with fail;refine a.mono ?_;rintro e E ⟨rfl,g⟩;clear a;go_wp2;go_roundw
   case rel=>exact ⟨k+1,O,by go_num,b.trans (g.mono b.size),m.out⟩
   simp[intOf];omega
 have o:k=n:=O;subst o;go_wp2;go_ret;refine ⟨_,rfl,?_,b⟩;have:=v.out;rw[ai (by rw[C.out];omega)] at this;rw[this];decide
theorem aWv(d:n<=maxLen)(g:Lm w)(h:RdFl w w.heap.size A n c l) :
  Calls prog 73 #[.slice A n c,.func (.func 74) #[] #[]] w (BoolBelow (l.any fun f=>!treeOk f.files) w):=by
 have C:=bCj d g h;go_enter Tryz.func73,Tryz.ntmps73;go_wp2_with fail;refine C.mono ?_;rintro e w' ⟨r,rfl,b,a⟩;clear C;go_wp2;go_ret;exact ⟨aAi (by rw[<-b]),a⟩
theorem aYg(o:Int)(v:Value)(x:Int)(g:Nat)(w:World)(c:w.cell? ⟨g,0,none⟩=some (.int .i64 x))(b:g<w.heap.size) :
  Calls prog 111 #[.agg #[.int .i64 o,v],.pointer (some ⟨g,0,none⟩)] w (BoolBelow (decide (o=x)) w):=by
 have d:(w.alloc (.cells #[.int .i64 o,v] 52)).cell? ⟨g,0,none⟩=some (.int .i64 x):=by rw[((Below.refl w.heap.size w).alloc (aa _) _).cell (p:=⟨g,0,none⟩) b];exact c
 have a:Below w.heap.size w (w.alloc (.cells #[.int .i64 o,v] 52)):=(Below.refl _ _).alloc (aa _) _;go_enter Tryz.func111,Tryz.ntmps111;go_wp2;go_ret;refine ⟨aAi ?_,a⟩;by_cases h:o=x<;>simp[h]
def SetAt (s:List STV)(x:Int)(w:World)(e:Ending) (w':World):Prop:=
 ∃r:Int,e=.returned (.int .i64 r)/\((r=-1/\settledF (s.map STV.pl) x=none)\/∃(k:Nat) (f:STV),r=k/\s[k]? = some f/\settledF (s.map STV.pl) x=some f.pl)/\Below w.heap.size w w'
theorem bCu {s:List STV}{f:STV}(j:s[k]? = some f)(l:f.commit=x)(m:∀g∈s.take k,g.commit≠x):settledF (s.map STV.pl) x=some f.pl:=by
 unfold settledF
 have a:s=s.take k++f::s.drop (k+1):=by
  obtain ⟨c,e⟩:=aj.1 j;have h:=(aY k s).symm;rw[bp c,e] at h;exact h
 rw[a,aM,dc,jA,iT]
 have b:((s.take k).map STV.pl).find? (fun y=>decide (y.commit=x))=none:=by
  rw[cL];intro y d;obtain ⟨g,i,rfl⟩:=ce.1 d;exact fun h=>m g i (aP h)
 rw[b];simp[STV.pl,l]
theorem bCt {s:List STV}(c:∀g∈s,g.commit≠x):settledF (s.map STV.pl) x=none:=by
 unfold settledF;rw[cL];intro y a;obtain ⟨g,b,rfl⟩:=ce.1 a;exact fun h=>c g b (aP h)
theorem bBg {s:List STV}{g:Nat}(D:n<=maxLen)(h:RdS w w.heap.size A n c s)(b:w.cell? ⟨g,0,none⟩=some (.int .i64 x))(o:g<w.heap.size) :
  Calls prog 110 #[.slice A n c,.func (.func 111) #[] #[.pointer (some ⟨g,0,none⟩)]] w (SetAt s x w):=by
 unfold maxLen at D;have C:=hid h.len;go_enter Tryz.func110,Tryz.ntmps110;go_wp2;go_loopw[5,8] (fun _ i wr=>∃k:Nat,k<=n/\i=.int .i64 k/\Below w.heap.size w wr/\Hid (∀g∈s.take k,g.commit≠x)) (fun _ i _=>n-(intOf i).toNat)
 case atStart=>exact ⟨0,al _,rfl,Below.refl _ _,by rw[bi];intro g b;cases b⟩
 obtain ⟨k,E,rfl,d,t⟩:=hrel;by_cases v:k<n
 ·obtain ⟨F,G,u,rfl,m,B,H,y,z⟩:=h.get v
  replace y:=(d.cell m).trans y;replace z:=(d.cell m).trans z;have q:=hid B;clear B;have a:=aYg u.commit (.slice u.A u.files.length u.c) x g wr ((d.cell (p:=⟨g,0,none⟩) o).trans b) (ag o d.size)
  cases j:decide (u.commit=x) with
  | true=>
   rw[j] at a;have l:=hid (bCu q.out (aP j) t.out);clear j;go_wp2_with fail;refine a.mono ?_;rintro e w' ⟨rfl,f⟩;clear a;go_wp2;go_ret;exact ⟨_,rfl,.inr ⟨k,u,rfl,q.out,l.out⟩,d.trans (f.mono d.size)⟩
  | false=>
   rw[j] at a
   have l:=hid (show ∀g∈s.take (k+1),g.commit≠x from fun g b=>by
    rw[aB,q.out] at b;rcases aQ.1 b with b | b
    ·exact t.out g b
    simp at b;subst b;exact cj j)
   clear j;go_wp2_with fail;refine a.mono ?_;rintro e w' ⟨rfl,f⟩;clear a;go_wp2;go_roundw
   case rel=>exact ⟨k+1,O,by go_num,d.trans (f.mono d.size),l.out⟩
   simp[intOf];omega
 have r:k=n:=O;subst r;have l:=hid (show settledF (s.map STV.pl) x=none from bCt (by have:=t.out;rwa [ai (by rw[C.out];omega)] at this));go_wp2;go_ret;exact ⟨_,rfl,.inl ⟨rfl,l.out⟩,d⟩
def Sr (w0 w:World)(sb m:Nat)(bs ss:Value)(is js:List Nat)(ps:List (Nat×Nat))(G:GT)(Z:Nat->Obj->Prop):Prop:=∃f t o,SP w0 w sb m bs ss f t o is js ps G Z
theorem Sr.below(h:Sr w0 w sb m bs ss is js ps G Z)(a:Below w.heap.size w w'):Sr w0 w' sb m bs ss is js ps G Z:=by
 obtain ⟨f,t,o,h⟩:=h;exact ⟨f,t,o,h.below a⟩
theorem Sr.weaken {Z':Nat->Obj->Prop}(h:Sr w0 w sb m bs ss is js ps G Z)(c:∀k a,Z' k a->Z k a):Sr w0 w sb m bs ss is js ps G Z':=by
 obtain ⟨f,t,o,h⟩:=h;exact ⟨f,t,o,h.hs,h.f1,h.t1,h.o1,h.nf,h.nt,h.no,h.nft,h.nfo,h.nto,h.mp,h.lo,h.bel,fun k a b=>h.oth k a (c k a b)⟩
theorem Sr.more(h:Sr w0 w sb m bs ss is js ps G Z)(d:Below w.heap.size w w'){g:Nat}{q:Obj}(i:w'.heap[g]? = some q)(j:w.heap.size<=g) :
  Sr w0 w' sb m bs ss is js ps G fun k b=>Z k b\/(k=g/\b=q):=by
 obtain ⟨f,t,o,h⟩:=h;have a:=h.below d;refine ⟨f,t,o,a.hs,a.f1,a.t1,a.o1,a.nf,a.nt,a.no,a.nft,a.nfo,a.nto,a.mp,a.lo,a.bel,fun k b c=>?_⟩;rcases c with c | ⟨rfl,rfl⟩
 ·exact a.oth k b c
 refine ⟨i,fun e=>?_,fun e=>?_,fun e=>?_,fun e=>?_⟩
 ·have:=aAa h.hs;omega
 ·have:=(h.f1.lt _ e).2;omega
 ·have:=(h.t1.lt _ e).2;omega
 have:=(h.o1.lt _ e).2;omega
theorem bAl(i:Nat)(l:List Nat):dropI (fun x=>decide (x=i)) l=l.filter fun k=>decide (k≠i):=by
 unfold dropI;congr 1;funext x;simp
theorem aGq {P:Program}{t e:TypeId}{bytes:Nat}(E:Elem P t e 2 bytes)(a b:Value)(w:World) :
  (Instr.buildSlice t 1 #[(0,.agg #[a,b])]).run P w=.ok (.slice (some ⟨w.heap.size,0,none⟩) 1 1) (w.alloc (.cells #[a,b] e)):=by
 obtain ⟨i,z,j,k,f,l,g⟩:=E.row
 obtain ⟨c,d,m⟩:∃c d,z.cells=#[c,d]:=by
  have:=g
  match h:z.cells,this with
  | ⟨[c,d]⟩,_=>exact ⟨c,d,rfl⟩
 simp[Instr.buildSlice,bK E.und,sizeOf,typeInfo,j,f,zeroValue,k,Instr.fill,Value.cells,newRow,show Array.range 2=#[0,1] from rfl]
theorem bHn {B:Nat}{xs:List Nat}(h:w.ownsRow B 3 1 v xs.length (natsV xs))(k:v≠.slice none 0 0) :
  ∃r cap a,v=.slice (some ⟨r,0,none⟩) xs.length cap/\B<=r/\w.heap[r]? = some (.cells a 3 (0,0))/\xs.length<=cap/\cap<=maxLen/\a.size=cap/\a.toList.take xs.length=natsV xs:=by
 rcases h.2 with ⟨e,_⟩ | ⟨g,cap,a,e,b,c,d,f,i,j⟩
 ·exact absurd e k
 exact ⟨g,cap,a,e,b,c,d,f,by simpa using i,by simpa using j⟩
theorem bLp {B cap:Nat}{a:Array Value}{xs:List Nat}(e:B<=r)(f:w.heap[r]? = some (.cells a 3 (0,0)))(b:n<=cap)(c:cap<=maxLen)(d:a.size=cap)(g:a.toList.take n=natsV xs)(h:xs.length=n) :
  w.ownsRow B 3 1 (.slice (some ⟨r,0,none⟩) n cap) xs.length (natsV xs):=by
 subst h;exact ⟨by rw[aDl,bW],.inr ⟨r,cap,a,rfl,e,f,b,c,by simpa using d,by simpa using g⟩⟩
theorem bAj(h:Sr w0 w sb m bs ss is js ps G Z)(hi:i∈is)(hj:j∈js)(nZ:is.length<=100000)(n5:js.length<=100000)(n7:ps.length<=100000) :
  Calls prog 208 #[.pointer (some ⟨sb,0,none⟩),.agg #[.int .i64 (i:Int),.int .i64 (j:Int)]] w fun e w'=>e=.returned (.tuple #[])/\Sr w0 w' sb m bs ss (is.filter fun k=>decide (k≠i)) (js.filter fun k=>decide (k≠j)) (ps++[(i,j)]) G Z:=by
 obtain ⟨f,t,o,h⟩:=h;have hW:Below w.heap.size w (w.alloc (.cells #[.int .i64 (i:Int),.int .i64 (j:Int)] 234)):=(Below.refl _ _).alloc (aa _) _;have HP:=hid (h.below hW);have y:=hid (au w (.cells #[.int .i64 (i:Int),.int .i64 (j:Int)] 234))
 have U:f≠.slice none 0 0:=fun e=>by
  have:=h.f1;subst e;rcases this.2 with ⟨_,h0⟩ | ⟨g,cap,nr,e,_⟩
  ·rw[bj.1 h0] at hi;cases hi
  cases e
 have X:t≠.slice none 0 0:=fun e=>by
  have:=h.t1;subst e;rcases this.2 with ⟨_,h0⟩ | ⟨g,cap,nr,e,_⟩
  ·rw[bj.1 h0] at hj;cases hj
  cases e
 have nI:=hid (fun e:f.ownBlock=some w.heap.size=>cG _ (h.f1.lt _ e).2);have nJ:=hid (fun e:t.ownBlock=some w.heap.size=>cG _ (h.t1.lt _ e).2);have nK:=hid (fun e:o.ownBlock=some w.heap.size=>cG _ (h.o1.lt _ e).2);have Y:=hid (gX (aAa h.hs));have nL:=hid U;have nM:=hid X;clear h hW U X hi hj;obtain ⟨W,eW⟩:∃W,W=w.alloc (.cells #[.int .i64 (i:Int),.int .i64 (j:Int)] 234):=⟨_,rfl⟩;go_enter Tryz.func208,Tryz.ntmps208;go_wp2;rw[<-eW] at HP y ⊢;clear eW;generalize w.heap.size=s at *
 refine aAq (fun w'=>w'.heap[sb]? = some (.cells #[bs,ss,f,t,.map (some m),o] 231 (0,0))/\w'.heap[s]? = some (.cells #[.int .i64 (i:Int),.int .i64 (j:Int)] 234 (0,0)))
  [(true,0),(true,1),(true,2),(true,3),(true,4),(true,5),(false,6),(false,7),(true,8),(true,9)] [10] mixed κ ⟨HP.out.hs,y.out⟩ ?_
 intro Tp M Q Q2 hT nO hM hQ nm;have m0:M ⟨sb,5,none⟩=some o:=hM _ _ fun w' hw=>by rw[ab hw.1];rfl
 have m1:M ⟨s,0,none⟩=some (.int .i64 (i:Int)):=hM _ _ fun w' hw=>by rw[ab hw.2];rfl
 have m2:M ⟨s,1,none⟩=some (.int .i64 (j:Int)):=hM _ _ fun w' hw=>by rw[ab hw.2];rfl
 clear hM;simp only[qcmp];simp (maxSteps:=9^7) only[↓qpre,aAb,aAg,aAc,m0,m1,m2];clear m0 m1 m2;have O:Below W.heap.size W (W.drew.alloc (.cells #[.int .i64 (i:Int),.int .i64 (j:Int)] 234)):=(Below.refl _ _).drew.alloc (aa _) _;have z:=hid (HP.out.below O);have l:=hid ((O.block s (aAa y.out)).trans y.out);have ff:=hid (bLv W.drew W.drew.heap.size i j rfl);refine T.eff_lits (aGq bIu _ _ _) rfl ⟨hT _ ⟨z.out.hs,l.out⟩,?_⟩;simp (maxSteps:=9^7) only[aAb,aAc];clear HP y O;generalize W.drew.alloc (.cells #[.int .i64 (i:Int),.int .i64 (j:Int)] 234)=V at *;refine aAo bIu (base:=w0.heap.size) (n:=ps.length) rfl rfl z.out.o1 ff.out (bFa _) (by unfold maxLen;omega) ω z.out.bel.size ?_;intro v7 V5 P R nq;obtain ⟨A7,c7,rfl,nY⟩:=aAd P;have A:=hid (z.out.push (q:=(i,j)) R P nq);have B:=hid ((R.block s (aAa l.out) (fun e=>nK.out e.symm)).trans l.out);refine ⟨hT _ ⟨A.out.hs,B.out⟩,?_⟩;simp (maxSteps:=9^7) only[↓qpre,aAb,aAg,aAc];refine hQ _ _ ?_;simp only[lates,List.map,qcmp];simp (maxSteps:=9^7) only[aAb];refine aBa (v:=.slice A7 (ps.length+1) c7) (b:=sb) (o:=5) κ rfl rfl (by rw[ab A.out.hs];rfl) (aAk A.out.hs) rfl ⟨trivial,?_⟩;simp (maxSteps:=9^7) only[aAb];refine nm _ _ ?_;have a:=hid A.out.set;have c:=hid ((Below.heap_setCell V5 ⟨sb,5,none⟩ (.slice A7 (ps.length+1) c7) s Y.out).trans B.out);clear hQ nm hT nO z l B ff A P R nq;generalize V5.setCell ⟨sb,5,none⟩ (.slice A7 (ps.length+1) c7)=V6 at *;obtain ⟨r,cap,nr,rfl,nP,ns,nQ,nu,nw,nz⟩:=bHn a.out.f1 nL.out;have nj:s≠r:=fun e=>nI.out (by rw[e];rfl)
 have K1:=aWh (q1:=.pointer (some ⟨s,0,none⟩)) (fun x=>decide (x=i)) (w:=V6) ω ns nQ nu nw nz rfl
  (fun x u hu=>bGa (by rw[ab ((hu.block s (aAa c.out) (fun e=>by injection e with e;exact nj e)).trans c.out)];rfl))
 have d1:V6.cell? ⟨sb,2,none⟩=some (.slice (some ⟨r,0,none⟩) is.length cap):=by rw[ab a.out.hs];rfl
 clear ns nz nw;go_wp2_with fail;refine K1.mono ?_;rintro e S ⟨m7,nT,rfl,nR,nU,nA,nB,nC,p⟩;have d:=hid (a.out.inF (r:=r) rfl p (bLp nP nA ω nu nB nC nR) (fun g hg=>hg));have F:=hid ((p.block s (aAa c.out) (fun e=>by injection e with e;exact nj e)).trans c.out);have H:=hid ((Below.heap_setCell S ⟨sb,2,none⟩ (.slice (some ⟨r,0,none⟩) m7 cap) s Y.out).trans F.out);have C:S.heap[sb]? = V6.heap[sb]?:=p.block sb (aAa a.out.hs) (fun e=>a.out.nf (by rw[e];rfl));have d2:S.cell? ⟨sb,2,none⟩=some (.slice (some ⟨r,0,none⟩) is.length cap):=by rw[ab (C.trans a.out.hs)];rfl
 have d3:S.frozen? ⟨sb,2,none⟩=false:=aAk (C.trans a.out.hs);obtain ⟨r2,I,nV,rfl,nD,J,nE,K,L,N⟩:=bHn d.out.t1 nM.out;have nk:s≠r2:=fun e=>nJ.out (by rw[e];rfl)
 have K2:=bDw (q1:=.pointer (some ⟨s,0,none⟩)) (fun x=>decide (x=j)) (w:=S.setCell ⟨sb,2,none⟩ (.slice (some ⟨r,0,none⟩) m7 cap)) ω J nE K L N rfl
  (fun x u hu=>bFv (by rw[ab ((hu.block s (aAa H.out) (fun e=>by injection e with e;exact nk e)).trans H.out)];rfl))
 have d4:(S.setCell ⟨sb,2,none⟩ (.slice (some ⟨r,0,none⟩) m7 cap)).cell? ⟨sb,3,none⟩=some (.slice (some ⟨r2,0,none⟩) js.length I):=by rw[ab d.out.hs];rfl
 clear K1 d1 J N L nA nB nC p C a c F;go_wp2_with fail;refine K2.mono ?_;rintro e V8 ⟨m8,nW,rfl,nS,nX,nF,nG,nH,E⟩;have nN:=hid (d.out.inT (r:=r2) rfl E (bLp nD nF ω K nG nH nS) (fun g hg=>hg));have D:=(E.block sb (aAa d.out.hs) (fun e=>d.out.nt (by rw[e];rfl))).trans d.out.hs;have d5:V8.cell? ⟨sb,3,none⟩=some (.slice (some ⟨r2,0,none⟩) js.length I):=by rw[ab D];rfl
 have d6:V8.frozen? ⟨sb,3,none⟩=false:=aAk D;clear K2 d2 d3 d4 nF nG nH E D d;go_wp2;refine aI (aF rfl _ _ _) rfl ?_;rw[<-bAl,<-bAl];exact ⟨rfl,_,_,_,nN.out⟩
structure Two (w0:World) (bs ss:Value) (base side:List FV):Prop where
 ex:∃A n ca B m cb,bs=.slice A n ca/\ss=.slice B m cb/\RdF w0 w0.heap.size A n ca base/\RdF w0 w0.heap.size B m cb side/\n<=100000/\m<=100000
theorem aJk {l:List FV}{f:FV}(h:l[i]? = some f):textAt l i=f.text:=by simp[textAt,h]
theorem bFx {u:World}{E F:Nat}{f t m o:Value}{base side:List FV}(U:Two w0 bs ss base side)(L:Below w0.heap.size w0 u)(V:i<base.length)(W:j<side.length)
  (k0:u.cell? ⟨E,0,none⟩=some (.pointer (some ⟨sb,0,none⟩))) (k1:u.cell? ⟨F,0,none⟩=some (.int .i64 (i:Int))) (N:u.heap[sb]? = some (.cells #[bs,ss,f,t,m,o] 231 (0,0))) (_hsx:E<u.heap.size) (_hix:F<u.heap.size) :
  Calls prog 207 #[.int .i64 (j:Int),.pointer (some ⟨E,0,none⟩),.pointer (some ⟨F,0,none⟩)] u fun e w'=>e=.returned (.bool (decide (textAt side j=textAt base i)))/\Below u.heap.size u w':=by
 obtain ⟨A,n,ca,B,P,cb,rfl,rfl,ha,H,hn,hm⟩:=U.ex;rw[ha.len] at V;rw[H.len] at W;obtain ⟨v,w,x,rfl,I,R,J,_,_,G⟩:=ha.get V;obtain ⟨z,C,y,rfl,d,S,K,_,_,q2⟩:=H.get W;rw[aJk R,aJk S];have X:=L.size;replace G:=(L.cell (p:=⟨v,w+i*3+2,none⟩) I).trans G;replace q2:=(L.cell (p:=⟨z,C+j*3+2,none⟩) d).trans q2;have Y:=aAa N;have Z:u.cell? ⟨sb,0,none⟩=some (.slice (some ⟨v,w,none⟩) n ca):=by rw[ab N];rfl
 have s1:u.cell? ⟨sb,1,none⟩=some (.slice (some ⟨z,C,none⟩) P cb):=by rw[ab N];rfl
 clear R S J K ha H U;go_enter Tryz.func207,Tryz.ntmps207;go_wp2;refine aAe (fun w'=>∀p:Addr,w'.cell? p=u.cell? p) (qs 18) mixed κ (fun p=>rfl) ?_;intro Tp M Q T g b D;have h:M ⟨E,0,none⟩=some (.pointer (some ⟨sb,0,none⟩)):=b _ _ fun w' a=>(a _).trans k0;have k:M ⟨F,0,none⟩=some (.int .i64 (i:Int)):=b _ _ fun w' a=>(a _).trans k1;have l:M ⟨sb,0,none⟩=some (.slice (some ⟨v,w,none⟩) n ca):=b _ _ fun w' a=>(a _).trans Z;have q:M ⟨sb,1,none⟩=some (.slice (some ⟨z,C,none⟩) P cb):=b _ _ fun w' a=>(a _).trans s1;have r:M ⟨v,w+i*3+2,none⟩=some (.string x.text):=b _ _ fun w' a=>(a _).trans G;have s:M ⟨z,C+j*3+2,none⟩=some (.string y.text):=b _ _ fun w' a=>(a _).trans q2;clear b;simp only[qcmp];by_cases c:y.text=x.text
 ·have O:(y.text.toList == x.text.toList)=true:=by rw[c];exact aW _
  simp (maxSteps:=9^7) only[↓qpre,aAb,aAg,aAc,h,k,l,q,r,s];(repeat refine And.intro (by first|omega|(unfold inI64;omega)) ?_);refine D _ _ ?_;clear D T g h k l q r s O;rw[aq c];have HQ:=hid c;clear c;go_wp2;go_ret;exact ⟨by first | rfl | simp[HQ.out],(Below.refl _ _).drew⟩
 have O:=aBi c;simp (maxSteps:=9^7) only[↓qpre,aAb,aAg,aAc,h,k,l,q,r,s];(repeat refine And.intro (by first|omega|(unfold inI64;omega)) ?_);refine D _ _ ?_;clear D T g h k l q r s;rw[ak c];go_wp2;go_ret;exact ⟨by first | rfl | simp[c],(Below.refl _ _).drew⟩
end Go.Proofs.YtohblmepajhpaaaGreatDoor
