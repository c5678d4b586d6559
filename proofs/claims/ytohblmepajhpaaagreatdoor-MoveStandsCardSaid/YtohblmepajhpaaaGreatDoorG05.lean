/- Contracts of functions that the law reaches; plain laws. -/
import Derived.Test.YtohblmepajhpaaaGreatDoorG02
import Derived.Test.YtohblmepajhpaaaGreatDoorG03
import Derived.Test.YtohblmepajhpaaaGreatDoorG04
set_option maxHeartbeats 8000000
set_option maxRecDepth 100000
open Go.Lib (hid)
namespace Go.Proofs.YtohblmepajhpaaaGreatDoor
open Go.Proofs.Tryz (prog)
variable {s:ByteArray}{l X Y:List Nat}{n B b o tb i:Nat}{w':World}{v:Value}{xs:List ByteArray}{K:Act->World->Prop}{t ty:TypeId}{S:World->Prop}{dst:Option Tmp}{q:Bool}{ops:Array Oper}
theorem aId:∀{s:Bs},10∉s->splitL s=if s=[] then [] else [s]
 | [],_=>rfl
 | x::s,h=>by
  have a:¬x=10:=fun e=>h (by simp[e]);have b:10∉s:=fun e=>h (am _ e);rw[splitL,ah a,aId b];by_cases e:s=[]
  ·subst e;rfl
  rw[ah e,ah (by simp)]
theorem aJx:∀{u v:Bs},10∉u->splitL (u++10::v)=(u++[10])::splitL v
 | [],v,_=>by rw[aT,splitL,ao rfl];rfl
 | x::u,v,h=>by
  have a:¬x=10:=fun e=>h (by simp[e]);have b:10∉u:=fun e=>h (am _ e);rw[aV,splitL,ah a,aJx b];rfl
theorem aHu:∀{s:Bs} {l:Bs},l∈splitL s->l≠[]
 | [],l,h=>by cases h
 | x::s,l,h=>by
  rw[splitL] at h;split at h
  ·rcases ax.1 h with rfl | h
   ·simp
   exact aHu h
  split at h
  ·simp only[aS] at h;subst h;simp
  rename_i m ms a;rcases ax.1 h with rfl | h
  ·simp
  exact aHu (s:=s) (by rw[a];exact am _ h)
theorem aPl:∀(s:Bs),(splitL s).length<=s.length
 | []=>by simp[splitL]
 | x::s=>by
  have ih:=aPl s;rw[splitL];split
  ·simp only[aD];omega
  split
  ·simp
  rename_i m ms a;rw[a] at ih;simp only[aD] at ih ⊢;omega
theorem aBg(s:ByteArray):(linesF s).length<=s.size:=by
 rw[linesF,az];exact aPl _
theorem bHt {l:ByteArray}(h:l∈linesF s):l≠⟨#[]⟩:=by
 obtain ⟨x,d,rfl⟩:=ce.1 h;intro e;have b:=aHu d;have a:(ofB x).data.toList=[]:=by rw[e]
 have c:(ofB x).data.toList=x:=by simp[ofB]
 rw[c] at a;exact b a
open Go.RowKit
theorem aQy:∀{a:Bs} (b:Bs),10∉a->Lib.index (a++10::b) [10]=a.length
 | [],b,_=>by rw[aT,Lib.index];simp[List.isPrefixOf]
 | c::cs,b,h=>by
  have f:c≠10:=fun e=>h (by simp[e]);have d:((10:UInt8) == c)=false:=by simp;exact fun e=>f e.symm
  have ih:=aQy (a:=cs) b fun g=>h (am _ g);rw[aV,Lib.index,ih];simp[List.isPrefixOf,d]
theorem aLn:∀(k:Nat) (s:Bs),s.count 10=k->Lib.splitK [10] 1 k s=splitL s++if s=[]\/s.getLast? = some 10 then [[]] else []
 | 0,s,h=>by
  have d:=ij.1 h;rw[aId d];by_cases e:s=[]
  ·subst e;rfl
  rw[ah e,ah]
  ·rfl
  rintro (c | c)
  ·exact e c
  exact d (List.mem_of_getLast? c)
 | k+1,s,h=>by
  have d:10∈s:=by rw[<-kZ];omega
  obtain ⟨a,b,rfl,ha⟩:=List.eq_append_cons_of_mem d
  have g:b.count 10=k:=by
   rw[lG,kh,ij.2 ha] at h;omega
  rw[aJx ha,Lib.splitK,aQy b ha,ah (by simp)];have e:((a.length:Int)).toNat=a.length:=O;rw[e,bf,iH,jR];rw[ai O,cI O,jS,aT];rw[show List.drop 1 (10::b)=b from rfl,aLn k b g,show List.take 1 (10::b)=[10] from rfl,aV];congr 2
  have c:(a++10::b=[]\/(a++10::b).getLast? = some 10)↔(b=[]\/b.getLast? = some 10):=by
   cases b with
   | nil=>simp
   | cons y b=>simp[iN,List.getLast?_cons_cons]
  by_cases f:b=[]\/b.getLast? = some 10
  ·rw[ao f,ao (c.2 f)]
  rw[ah f,ah (fun h=>f (c.1 h))]
theorem bKu(x:ByteArray):ofB x.data.toList=x:=by cases x;simp[ofB]
theorem aWl(s:ByteArray):(Lib.splitB ⟨#[10]⟩ 1 (Lib.countB s ⟨#[10]⟩) s=linesF s++[⟨#[]⟩])\/(Lib.splitB ⟨#[10]⟩ 1 (Lib.countB s ⟨#[10]⟩) s=linesF s/\linesF s≠[]):=by
 have h:=Lib.splitB_data ⟨#[10]⟩ 1 (Lib.countB s ⟨#[10]⟩) s;have b:s.data.toList.count 10=Lib.countB s ⟨#[10]⟩:=by rw[<-Lib.count_one]
 have c:Lib.splitK (⟨#[10]⟩:ByteArray).data.toList 1 (Lib.countB s ⟨#[10]⟩) s.data.toList=_:=aLn _ _ b;rw[c] at h
 have d:Lib.splitB ⟨#[10]⟩ 1 (Lib.countB s ⟨#[10]⟩) s=(splitL s.data.toList++if s.data.toList=[]\/s.data.toList.getLast? = some 10 then [[]] else []).map ofB:=by
  rw[<-h,iA];rw[show (ofB ∘ fun x:ByteArray=>x.data.toList)=id from funext fun x=>bKu x,List.map_id]
 rw[d,aM];by_cases e:s.data.toList=[]\/s.data.toList.getLast? = some 10
 ·rw[ao e];exact .inl rfl
 rw[ah e];refine .inr ⟨by simp[linesF],fun g=>e (.inl ?_)⟩;have a:=aIa s.data.toList;have f:splitL s.data.toList=[]:=List.map_eq_nil_iff.1 g;rw[f] at a;exact a.symm
theorem aPc {w:World}(g:s.size<4294967281)(b:Lm w) :
  Calls prog 219 #[.string s,.string ⟨#[10]⟩] w fun e w'=>e=.returned (.slice (some ⟨w.heap.size,0,none⟩) (Lib.countB s ⟨#[10]⟩+1:Nat) (Lib.countB s ⟨#[10]⟩+1))/\w'=w.alloc (.cells ((Lib.splitB ⟨#[10]⟩ 1 (Lib.countB s ⟨#[10]⟩) s).map Value.string).toArray 9):=by
 obtain ⟨m,b⟩:=b;have d:=Lib.countB_le ⟨#[10]⟩ (by decide) s.size s (aa _);have a:=Lib.splitB_all ⟨#[10]⟩ (by decide) 1 _ s rfl;have c:=Tryz.strings_genSplit s ⟨#[10]⟩ 1 (-1) (Lib.countB s ⟨#[10]⟩+1) m w g b (by decide) (by decide) (by decide) (by decide) (by rw[ao (by decide)];omega);rw[fP,a] at c;have f:Lib.cellsOf (Lib.splitB ⟨#[10]⟩ 1 (Lib.countB s ⟨#[10]⟩) s) (Lib.countB s ⟨#[10]⟩+1)=((Lib.splitB ⟨#[10]⟩ 1 (Lib.countB s ⟨#[10]⟩) s).map Value.string).toArray:=by rw[<-a];exact Lib.cellsOf_full _
 rw[f] at c;generalize Lib.splitB ⟨#[10]⟩ 1 (Lib.countB s ⟨#[10]⟩) s=ps at *;generalize Lib.countB s ⟨#[10]⟩=k at *;go_enter Tryz.func219,Tryz.ntmps219;go_wp2_with fail;refine c.mono ?_;rintro e h ⟨rfl,rfl⟩;go_wp2;go_ret;exact ⟨rfl,rfl⟩
def LinesIs (L:List ByteArray)(w:World)(e:Ending) (w':World):Prop:=
 ∃A c,e=.returned (.slice A L.length c)/\Rd w' w'.heap.size 1 A L.length c (L.map .string)/\Below w.heap.size w w'
theorem aGh {w:World}(D:s.size<4294967281)(E:Lm w) :
  Calls prog 181 #[.string s] w (LinesIs (linesF s) w):=by
 have z:=Lib.countB_le ⟨#[10]⟩ (by decide) s.size s (aa _);have a:=Lib.splitB_all ⟨#[10]⟩ (by decide) 1 _ s rfl;have p:=aWl s;have d:∀l∈linesF s,l≠⟨#[]⟩:=fun l h=>bHt h;have c:=aPc D E;generalize Lib.splitB ⟨#[10]⟩ 1 (Lib.countB s ⟨#[10]⟩) s=ps at *;generalize Lib.countB s ⟨#[10]⟩=k at *;generalize linesF s=L at *;go_enter Tryz.func181,Tryz.ntmps181;go_wp2_with fail;refine c.mono ?_;rintro e m ⟨rfl,rfl⟩;clear c;have q:Below w.heap.size w (w.alloc (.cells (ps.map Value.string).toArray 9)):=(Below.refl _ _).alloc (aa _) _
 have b:∀(j:Nat) (x:ByteArray),ps[j]? = some x->(w.alloc (.cells (ps.map Value.string).toArray 9)).cell? ⟨w.heap.size,j,none⟩=some (.string x):=fun j x n=>by
  rw[World.cell?,au];simp[n]
 have r:(w.alloc (.cells (ps.map Value.string).toArray 9)).heap.size=w.heap.size+1:=by simp
 have t:=hid q;have A:=hid r;have i:=hid b;generalize w.alloc (.cells (ps.map Value.string).toArray 9)=m at *;clear q r b
 have v:Hid (Rd m m.heap.size 1 (some ⟨w.heap.size,0,none⟩) (k+1) (k+1) (ps.map .string)):=by
  refine ⟨by rw[az,a];omega,aa _,fun _=>⟨_,0,rfl,by rw[A.out];omega,fun j u o=>?_⟩⟩;rw[aG] at o
  cases h:ps[j]? with
  | none=>rw[h] at o;cases o
  | some x=>rw[h] at o;cases o;rw[aO];exact i.out j x h
 have F:((k+1:Nat):Int)-1=(k:Int):=O;rcases p with rfl | ⟨rfl,hL⟩
 ·have f:L.length=k:=by simpa using a
  have B:m.cell? ⟨w.heap.size,k,none⟩=some (.string ⟨#[]⟩):=i.out k _ (by rw[<-f];simp);have g:=hid f;clear f a d i;go_wp2;go_ret;refine ⟨some ⟨w.heap.size,0,none⟩,k+1,by rw[g.out];rfl,?_,t.out⟩;have h:=v.out.frontS (k:=k) O;rw[List.take_left' g.out] at h;rw[g.out];exact h
 have f:ps.length=k+1:=a;obtain ⟨x,n⟩:∃x,ps[k]? = some x:=⟨_,ac O⟩;have B:m.cell? ⟨w.heap.size,k,none⟩=some (.string x):=i.out k x n;have y:=aBi (d x (aC n))
 have G:x.toList.isEmpty=false:=by
  cases h:x.toList with
  | nil=>rw[h] at y;simp at y
  | cons=>rfl
 have g:=hid f;clear f a i n hL;have C:=hid d;clear d;go_wp2;go_ret;refine ⟨some ⟨w.heap.size,0,none⟩,k+1,by rw[g.out];rfl,?_,t.out⟩;rw[g.out];exact v.out
theorem bKn(l:List ByteArray):(⟨(Lib.join (l.map (·.data.toList)) []).toArray⟩:ByteArray)=joinF l:=by
 have h:∀l:List Bs,Lib.join l []=l.flatten:=by
  intro l
  induction l with
  | nil=>rfl
  | cons x l ih=>
   cases l with
   | nil=>simp[Lib.join]
   | cons y l=>
    have a:List.intercalate [] (y::l)=(y::l).flatten:=ih;show List.intercalate [] (x::y::l)=_;rw[List.intercalate_cons_cons,a];simp
 rw[h,joinF,ofB,mx]
theorem aZd {A:Option Addr}{c:Nat}{l:List ByteArray}{w:World}(g:n<=140737488355328)(h:Rd w w.heap.size 1 A n c (l.map .string))(p:(joinF l).size<=140737488355328) :
  Calls prog 183 #[.slice A n c] w fun e w'=>e=.returned (.string (joinF l))/\Below w.heap.size w w':=by
 have d:l.length=n:=by have:=h.len;rw[az] at this;omega
 have f:=bKn l
 have i:Calls prog 222 #[.slice A n c,.string ⟨#[]⟩] w fun e w'=>e=.returned (.string (joinF l))/\Below w.heap.size w w':=by
  cases n with
  | zero=>
   have:l=[]:=bj.1 d;subst this;refine (Tryz.strings_Join_none A c ⟨#[]⟩ w).mono ?_;rintro e w' ⟨rfl,rfl⟩;exact ⟨rfl,Below.refl _ _⟩
  | succ n=>
   obtain ⟨b,o,rfl,a,k⟩:=h.at_ O;rw[<-d] at g h ⊢
   have:=Tryz.strings_Join b o c l ⟨#[]⟩ w (fun j x m=>k j _ (by rw[aG,m];rfl)) a g h.cap (by
    have e:(Lib.join (l.map (·.data.toList)) (⟨#[]⟩:ByteArray).data.toList).length=(joinF l).size:=(by rw[<-f];rfl);rw[e];exact p)
   rw[<-f];exact this
 generalize joinF l=s at *;go_enter Tryz.func183,Tryz.ntmps183;go_wp2_with fail;refine i.mono ?_;rintro e q ⟨rfl,a⟩;go_wp2;go_ret;exact ⟨rfl,a⟩
def FreshS (l:List ByteArray)(w:World)(e:Ending) (w':World):Prop:=
 ∃A c,e=.returned (.slice A l.length c)/\Rd w' w'.heap.size 1 A l.length c (l.map .string)/\(∀a,A=some a->w.heap.size<=a.block)/\Below w.heap.size w w'
theorem aUy {l:List ByteArray}{w:World}(h:w'.ownsRow w.heap.size 9 1 v l.length (l.map .string))(f:Below w.heap.size w w'):FreshS l w (.returned v) w':=by
 obtain ⟨A,c,rfl,b⟩:=aAd h;refine ⟨A,c,rfl,Rd.of_own h b,fun a ha=>?_,f⟩;subst ha;exact (h.lt a.block (by rcases h.2 with ⟨e,_⟩ | ⟨g,cap,d,e,_⟩<;>first | (cases e;done) | (cases e;rfl))).1
theorem aHi {A:Option Addr}{c:Nat}{l:List ByteArray}{w:World}(n:l.length<=1000000)(h:Rd w w.heap.size 1 A l.length c (l.map .string)) :
  Calls prog 260 #[.slice A l.length c] w (FreshS l w):=by
 cases A with
 | none=>
  have d:l.length=0:=by
   rcases cV l.length with d | d
   ·exact d
   obtain ⟨b,o,e,_⟩:=h.at_ d;cases e
  refine (Tryz.slices_Clone_string_nil l.length c w).mono ?_;rintro e w' ⟨rfl,rfl⟩;have:l=[]:=bj.1 d;subst this;refine ⟨none,0,rfl,Rd.none_ _ _ _,?_,Below.refl _ _⟩;intro a ha
  cases ha
 | some a=>
  rcases cV l.length with d | d
  ·have:l=[]:=bj.1 d
   subst this;refine (Tryz.slices_Clone_string_zero a c w).mono ?_;rintro e w' ⟨v,rfl,f,_,g⟩;exact aUy f g
  obtain ⟨b,o,e,m,i⟩:=h.at_ d;injection e with e;subst e;refine (Tryz.slices_Clone_string b o l.length c l w (aa _) O (fun j k=>i j _ (by simp[k]))).mono ?_;rintro e w' ⟨v,rfl,f,_,g⟩;rw[ai (aa _)] at f;exact aUy f g
theorem aKu {A B:Option Addr}{ca m cb:Nat}{ys:List ByteArray}{w:World}(s:n<=17592186044416)(t:m<=17592186044416)(i:Rd w w.heap.size 1 A n ca (xs.map .string))(k:Rd w w.heap.size 1 B m cb (ys.map .string)) :
  Calls prog 289 #[.slice A n ca,.slice B m cb] w (BoolBelow (decide (xs=ys)) w):=by
 have g:xs.length=n:=by have:=i.len;rw[az] at this;omega
 have h:ys.length=m:=by have:=k.len;rw[az] at this;omega
 by_cases a:n=m
 ·subst a
  rcases cV n with b | b
  ·subst b
   refine (Tryz.slices_Equal_string_empty A B ca 0 cb w O).mono ?_;rintro e w' ⟨rfl,rfl⟩;rw[bj.1 g,bj.1 h];exact ⟨rfl,Below.refl _ _⟩
  obtain ⟨l,o,rfl,_,c⟩:=i.at_ b;obtain ⟨p,r,rfl,_,d⟩:=k.at_ b;refine (Tryz.slices_Equal_string l o n ca p r n cb xs ys w O O O O (fun j f=>c j _ (by simp[f])) (fun j f=>d j _ (by simp[f]))).mono ?_;rintro e w' ⟨rfl,q,rfl⟩;rw[ai O,ai O];exact ⟨rfl,⟨rfl,rfl,rfl,aa _,fun _ _=>rfl⟩⟩
 refine (Tryz.slices_Equal_string_lens A B n ca m cb w a).mono ?_;rintro e w' ⟨rfl,rfl⟩;exact ⟨aAi (ak (fun e=>a (by rw[<-g,<-h,e]))).symm,Below.refl _ _⟩
theorem bKb {z A B:Option Addr}{k C l D m E:Nat}{K:Int}{b o t:List ByteArray}{w:World}(Q:k<=1000000)(R:l<=1000000)(S:m<=1000000)
  (N:Rd w w.heap.size 1 z k C (b.map .string)) (O:Rd w w.heap.size 1 A l D (o.map .string)) (P:Rd w w.heap.size 1 B m E (t.map .string)) :
  Calls prog 263 #[.agg #[.int .i64 K,.slice z k C,.slice A l D,.slice B m E]] w fun e w'=>e=.returned (.int .i64 (kindF b o t))/\Below w.heap.size w w':=by
 have c:Below w.heap.size w (w.alloc (.cells #[.int .i64 K,.slice z k C,.slice A l D,.slice B m E] 143)):=(Below.refl _ _).alloc (aa _) _;have g:=hid c;clear c;have n:=hid (fun (j:World) (a:Below w.heap.size w j)=>aKu ω ω (O.to a a.size) (N.to a a.size));have q:=hid (fun (j:World) (a:Below w.heap.size w j)=>aKu ω ω (P.to a a.size) (N.to a a.size));have r:=hid (fun (j:World) (a:Below w.heap.size w j)=>aKu ω ω (O.to a a.size) (P.to a a.size));have G:=hid (show kindF b o t=if decide (o=b) then 3 else if decide (t=b) then 2 else if decide (o=t) then 4 else 5 by simp[kindF]);clear N O P;generalize kindF b o t=F at *;generalize decide (o=b)=T at *;generalize decide (t=b)=d2 at *;generalize decide (o=t)=U at *
 have s:∀(u:World),Below (w.heap.size+1) (w.alloc (.cells #[.int .i64 K,.slice z k C,.slice A l D,.slice B m E] 143)) u->u.cell? ⟨w.heap.size,1,none⟩=some (.slice z k C)/\u.cell? ⟨w.heap.size,2,none⟩=some (.slice A l D)/\u.cell? ⟨w.heap.size,3,none⟩=some (.slice B m E):=fun u M=>by
  refine ⟨(M.cell (p:=⟨w.heap.size,1,none⟩) (de _)).trans ?_,(M.cell (p:=⟨w.heap.size,2,none⟩) (de _)).trans ?_,(M.cell (p:=⟨w.heap.size,3,none⟩) (de _)).trans ?_⟩<;>(rw[World.cell?,au];rfl)
 have v:=hid s;clear s;go_enter Tryz.func263,Tryz.ntmps263;go_wp2_with fail;refine (n.out _ g.out).mono ?_;rintro e j ⟨rfl,c⟩;have d:=hid (g.out.trans (c.mono g.out.size));have h:=hid (c.mono (show w.heap.size+1<=_ by simp));clear c n;obtain ⟨I,J,L⟩:=v.out _ h.out
 cases T
 ·go_wp2_with fail
  refine (q.out _ d.out).mono ?_;rintro e V ⟨rfl,i⟩;have f:=hid (d.out.trans (i.mono d.out.size));have H:=hid (h.out.trans (i.mono (aw (by simp) h.out.size)));clear i q I J L;obtain ⟨I,J,L⟩:=v.out _ H.out
  cases d2
  ·go_wp2_with fail
   refine (r.out _ f.out).mono ?_;rintro e W ⟨rfl,y⟩;have x:=hid (f.out.trans (y.mono f.out.size));clear y r I J L
   cases U
   ·go_wp2
    go_ret;exact ⟨by rw[G.out];rfl,x.out⟩
   go_wp2;go_ret;exact ⟨by rw[G.out];rfl,x.out⟩
  go_wp2;go_ret;exact ⟨by rw[G.out];rfl,f.out⟩
 go_wp2;go_ret;exact ⟨by rw[G.out];rfl,d.out⟩
def Keeps (l:List Nat) (w w':World):Prop:=w.heap.size<=w'.heap.size/\∀p:Addr,p.block<w.heap.size->p.block∉l->w'.cell? p=w.cell? p
theorem Keeps.refl(l:List Nat)(w:World):Keeps l w w:=⟨aa _,fun _ _ _=>rfl⟩
theorem Keeps.trans {a b c:World}(h:Keeps l a b)(k:Keeps l b c):Keeps l a c:=
 ⟨aw h.1 k.1,fun p d e=>(k.2 p (ag d h.1) e).trans (h.2 p d e)⟩
theorem Keeps.of_below {w:World}(h:Below w.heap.size w w'):Keeps l w w':=⟨h.size,fun _p a _=>h.cell a⟩
theorem Keeps.grown {w:World}{row:Option Nat}(h:w.grownBy w' row)(c:∀g,row=some g->g∈l):Keeps l w w':=
 ⟨h.size,fun p a b=>cw (h.block p.block a (fun e=>b (c _ e.symm)))⟩
theorem Keeps.drew {w:World}(h:Keeps l w w'):Keeps l w w'.drew:=h
theorem aAy(w:World)(g j:Nat)(u:Value):w.grownBy (w.setCell ⟨g,j,none⟩ u) (some g):=⟨rfl,rfl,rfl,by simp,fun k _ a=>il _ _ k _ (fun e=>a (by rw[e]))⟩
def RdO (w:World)(l:List Nat)(A:Option Addr)(c:Nat)(xs:List ByteArray):Prop:=Rd w w.heap.size 1 A xs.length c (xs.map .string)/\∀a,A=some a->0<xs.length->a.block∉l
theorem RdO.keep {w:World}{A:Option Addr}{c:Nat}(h:RdO w l A c xs)(e:Keeps l w w'):RdO w' l A c xs:=by
 refine ⟨⟨h.1.len,h.1.cap,fun d=>?_⟩,h.2⟩;obtain ⟨b,o,rfl,a,f⟩:=h.1.at_ d;refine ⟨b,o,rfl,ag a e.1,fun j u g=>?_⟩;rw[e.2 ⟨b,o+j,none⟩ a (h.2 ⟨b,o,none⟩ rfl d)];exact f j u g
theorem RdO.less {w:World}{m:List Nat}{A:Option Addr}{c:Nat}(h:RdO w l A c xs)(j:∀b∈m,b∈l\/w.heap.size<=b):RdO w m A c xs:=by
 refine ⟨h.1,fun a ha g d=>?_⟩;rcases j _ d with f | f
 ·exact h.2 a ha g f
 obtain ⟨b,o,e,i,_⟩:=h.1.at_ g;rw[ha] at e;injection e with e;subst e;exact nh.2 f i
def KIn (w:World)(l:List Nat)(k:KV)(cs:List Value):Prop:=
 ∃A0 c0 A1 c1 A2 c2,cs=[.int .i64 k.kind,.slice A0 k.base.length c0,.slice A1 k.ours.length c1,.slice A2 k.theirs.length c2]/\RdO w l A0 c0 k.base/\RdO w l A1 c1 k.ours/\RdO w l A2 c2 k.theirs
theorem KIn.keep {w:World}{k:KV}{cs:List Value}(h:KIn w l k cs)(a:Keeps l w w'):KIn w' l k cs:=by
 obtain ⟨b,c,d,f,g,i,e,j,m,n⟩:=h;exact ⟨b,c,d,f,g,i,e,j.keep a,m.keep a,n.keep a⟩
theorem KIn.less {w:World}{m:List Nat}{k:KV}{cs:List Value}(h:KIn w l k cs)(a:∀b∈m,b∈l\/w.heap.size<=b):KIn w m k cs:=by
 obtain ⟨c,d,f,g,i,j,e,n,o,p⟩:=h;exact ⟨c,d,f,g,i,j,e,n.less a,o.less a,p.less a⟩
theorem KIn.len {w:World}{k:KV}{cs:List Value}(h:KIn w l k cs):cs.length=4/\∀u∈cs,u.oneCell'=true:=by
 obtain ⟨b,c,d,e,f,g,rfl,_⟩:=h;exact ⟨rfl,fun u a=>by simp at a;rcases a with rfl | rfl | rfl | rfl<;>rfl⟩
def KIns (w:World)(l:List Nat):List KV->List (List Value)->Prop
 | [],[]=>True
 | k::L,cs::H=>KIn w l k cs/\KIns w l L H
 | _,_=>False
theorem KIns.keep {w:World}(a:Keeps l w w'):∀{L:List KV} {H:List (List Value)},KIns w l L H->KIns w' l L H
 | [],[],_=>trivial
 | _::_,_::_,h=>⟨h.1.keep a,KIns.keep a h.2⟩
theorem KIns.less {w:World}{m:List Nat}(a:∀b∈m,b∈l\/w.heap.size<=b):∀{L:List KV} {H:List (List Value)},KIns w l L H->KIns w m L H
 | [],[],_=>trivial
 | _::_,_::_,h=>⟨h.1.less a,KIns.less a h.2⟩
theorem KIns.snoc {w:World}:∀{L:List KV} {H:List (List Value)} {k:KV} {cs:List Value},KIns w l L H->KIn w l k cs->KIns w l (L++[k]) (H++[cs])
 | [],[],_,_,_,hk=>⟨hk,trivial⟩
 | _::_,_::_,_,_,h,hk=>⟨h.1,KIns.snoc h.2 hk⟩
theorem KIns.get {w:World}:∀{L:List KV} {H:List (List Value)} {i:Nat} {k:KV},KIns w l L H->L[i]? = some k->∃cs,H[i]? = some cs/\KIn w l k cs
 | [],[],i,k,_,hk=>by simp at hk
 | _::_,cs::_,0,k,h,hk=>by simp at hk;subst hk;exact ⟨cs,rfl,h.1⟩
 | _::_,_::_,i+1,k,h,hk=>by simp at hk;obtain ⟨cs,a,b⟩:=KIns.get h.2 hk;exact ⟨cs,by simpa using a,b⟩
def obs (v:Value):List Nat:=match v.ownBlock with | some g=>[g] | none=>[]
theorem aEj {g:Nat}(h:v.ownBlock=some g):g∈obs v:=by unfold obs;rw[h];simp
theorem aFc {g:Nat}(h:g∈obs v):v.ownBlock=some g:=by
 unfold obs at h;split at h
 ·rename_i k a;simp at h;subst h;exact a
 cases h
structure TX (w0 w:World) (tb:Nat) (x y z:Value) (b o t:Nat) (L:List KV):Prop where
 ex:∃(out:Value) (H:List (List Value)),w.heap[tb]? = some (.cells #[x,y,z,.int .i64 b,.int .i64 o,.int .i64 t,out] 278 (0,0))/\w.ownsRow w0.heap.size 143 4 out L.length H.flatten/\out.ownBlock≠some tb/\KIns w (tb::obs out) L H
 lo:w0.heap.size<=tb
 bel:Below w0.heap.size w0 w
theorem TX.hi {w0 w:World}{x y z:Value}{t:Nat}{L:List KV}(h:TX w0 w tb x y z b o t L):tb<w.heap.size:=by
 obtain ⟨_,_,c,_⟩:=h.ex;rcases bo tb w.heap.size with a | a
 ·exact a
 simp[br a] at c
theorem aBr {P:Program}{a:Act}{w:World}{g:Option (Tmp×Bool)}{z:Value}(b:∀w,(zeroValue t).run P w=.ok z w)
  (c:S (w.alloc (.cells z.cells t))/\K (a.put dst (.pointer (some ⟨w.heap.size,0,none⟩))) (w.alloc (.cells z.cells t))):effq P S ⟨q,dst,.alloc t,ty,g⟩ a w K:=by
 refine aQu (fun p d g=>?_) c;unfold execOp;simp[Instr.alloc,newVar,newRow,b,bT,bI]
theorem aKs {P:Program}{a:Act}{w:World}{x y:Operand}{g:Option (Tmp×Bool)}{u0 u1:Value}(z:(P.info? t).map (·.size)=some 2)
  (A:a.eval x=.pointer (some ⟨b,o,none⟩)) (B:a.eval y=.agg #[u0,u1]) (h:(w.cell? ⟨b,o,none⟩).isSome=true) (k:(w.cell? ⟨b,o+1,none⟩).isSome=true)
  (l:w.frozen? ⟨b,o,none⟩=false) (m:w.frozen? ⟨b,o+1,none⟩=false) (E:u0.oneCell'=true) (F:u1.oneCell'=true)
  (C:S ((w.setCell ⟨b,o,none⟩ u0).setCell ⟨b,o+1,none⟩ u1)/\K (a.put dst undef) ((w.setCell ⟨b,o,none⟩ u0).setCell ⟨b,o+1,none⟩ u1)) :
  effq P S ⟨q,dst,.store t x y,ty,g⟩ a w K:=by
 intro p D g
 have r:∀j,j<[u0,u1].length->(w.cell? ⟨b,o+0+j,none⟩).isSome=true:=by
  intro j d;have:j=0\/j=1:=by simp at d;omega
  rcases this with rfl | rfl
  ·exact h
  exact k
 have s:∀j,j<[u0,u1].length->w.frozen? ⟨b,o+0+j,none⟩=false:=by
  intro j d;have:j=0\/j=1:=by simp at d;omega
  rcases this with rfl | rfl
  ·exact l
  exact m
 have v:=kt (P:=P) b o [u0,u1] 0 w r s (fun u n=>by simp at n;rcases n with rfl | rfl<;>assumption);obtain ⟨i,e,f⟩:=be.1 z;unfold Oper.wp execOp
 have c:(storeVar t ⟨b,o,none⟩ (.agg #[u0,u1])).run P w=.ok () ((w.setCell ⟨b,o,none⟩ u0).setCell ⟨b,o+1,none⟩ u1):=by
  simp[storeVar,sizeOf,typeInfo,e,f,Value.cells,v,World.setCells]
 simp only[A,B,Instr.storeAt,Instr.sureAddr,bT,cE,bI,c];exact C
theorem aBo {P:Program}{a:Act}{w:World}{parts:Array (Nat×Operand)}{g:Option (Tmp×Bool)}{c:Array (Nat×Value)}
  (d:(parts.toList.map fun p=>(p.1,a.eval p.2)).toArray=c) (e:(Instr.build t c).run P w=.ok v w) (f:S w/\K (a.put dst v) w):effq P S ⟨q,dst,.build t parts,ty,g⟩ a w K:=by
 intro p h g;have b:(parts.map fun p=>(p.1,a.eval p.2))=c:=by rw[<-d];apply dX.1;simp
 unfold Oper.wp execOp;simp only[b,e,bT,cE,bI];exact f
theorem aNk {v:Nat}{w:World}(h:w.cell? ⟨tb,4,none⟩=some (.int .i64 v)):Calls prog 261 #[.pointer (some ⟨tb,0,none⟩)] w fun e w'=>e=.returned (.int .i64 v)/\w'=w:=by
 go_enter Tryz.func261,Tryz.ntmps261;go_wp2;go_ret;exact ⟨rfl,rfl⟩
theorem aEh {v:Nat}{w:World}(h:w.cell? ⟨tb,5,none⟩=some (.int .i64 v)):Calls prog 262 #[.pointer (some ⟨tb,0,none⟩)] w fun e w'=>e=.returned (.int .i64 v)/\w'=w:=by
 go_enter Tryz.func262,Tryz.ntmps262;go_wp2;go_ret;exact ⟨rfl,rfl⟩
theorem aCo(w:World):(zeroValue 143).run prog w=.ok (.agg #[.int .i64 0,.slice none 0 0,.slice none 0 0,.slice none 0 0]) w:=by
 go_simp
theorem bCl(K:Int)(a b c:Option Addr)(d e f g h i:Nat)(w:World) :
  (Instr.build 143 #[(0,.int .i64 K),(1,.slice a d e),(2,.slice b f g),(3,.slice c h i)]).run prog w=.ok (.agg #[.int .i64 K,.slice a d e,.slice b f g,.slice c h i]) w:=by
 go_simp
theorem aDf(a b c:Option Addr)(d e f g h i:Nat)(w:World) :
  (Instr.build 143 #[(1,.slice a d e),(2,.slice b f g),(3,.slice c h i)]).run prog w=.ok (.agg #[.int .i64 0,.slice a d e,.slice b f g,.slice c h i]) w:=by
 go_simp
theorem bDy(x y:Int)(w:World):(Instr.build 273 #[(0,.int .i64 x),(1,.int .i64 y)]).run prog w=.ok (.agg #[.int .i64 x,.int .i64 y]) w:=by
 go_simp
theorem aDi:Elem prog 133 143 4 80:=aCa T
structure FLV where
 parent:Int
 msg:ByteArray
 A:Option Addr
 c:Nat
 files:List FV
def FLV.pl (f:FLV):FL:=⟨f.parent,f.msg,f.files⟩
def FLV.cells (f:FLV):List Value:=[.int .i64 f.parent,.string f.msg,.slice f.A f.files.length f.c]
theorem FLV.cells_len(f:FLV):f.cells.length=3:=rfl
structure STV where
 commit:Int
 A:Option Addr
 c:Nat
 files:List FV
def STV.pl (f:STV):SettL:=⟨f.commit,f.files⟩
def STV.cells (f:STV):List Value:=[.int .i64 f.commit,.slice f.A f.files.length f.c]
theorem STV.cells_len(f:STV):f.cells.length=2:=rfl
theorem MV.cells_len(f:MV):f.cells.length=2:=rfl
def RdO3 (w:World)(X:List Nat)(A:Option Addr)(c:Nat)(fs:List FV):Prop:=RdF w w.heap.size A fs.length c fs/\∀a,A=some a->0<fs.length->a.block∉X
theorem aBq {w:World}{k c:Nat}{A:Option Addr}{xs:List Value}(h:Rd w w.heap.size k A n c xs)(ha:∀a,A=some a->0<n->a.block∉X)(g:Keeps X w w'):Rd w' w'.heap.size k A n c xs:=by
 refine ⟨h.len,h.cap,fun f=>?_⟩;obtain ⟨b,o,e,d,i⟩:=h.at_ f;exact ⟨b,o,e,ag d g.1,fun j v l=>(g.2 ⟨b,o+j,none⟩ d (show b∉X from ha ⟨b,o,none⟩ e f)).trans (i j v l)⟩
theorem RdO3.keep {w:World}{A:Option Addr}{c:Nat}{a:List FV}(h:RdO3 w X A c a)(b:Keeps X w w'):RdO3 w' X A c a:=
 ⟨⟨aBq h.1.row h.2 b,rfl,h.1.fits⟩,h.2⟩
theorem aMq {w:World}{k c:Nat}{A:Option Addr}{xs:List Value}(h:Rd w B k A n c xs)(ha:∀a,A=some a->0<n->a.block∉X)(l:∀b∈Y,b∈X\/B<=b):∀a,A=some a->0<n->a.block∉Y:=by
 intro a e f i;obtain ⟨b,o,g,j,_⟩:=h.at_ f;rcases l _ i with d | d
 ·exact ha a e f d
 rw[e] at g;cases g;exact absurd j (nh.2 d)
theorem RdO3.less {w:World}{A:Option Addr}{c:Nat}{a:List FV}(h:RdO3 w X A c a)(d:∀b∈Y,b∈X\/w.heap.size<=b):RdO3 w Y A c a:=
 ⟨h.1,aMq h.1.row h.2 d⟩
structure FlOk (w:World) (X:List Nat) (f:FLV):Prop where
 files:RdO3 w X f.A f.c f.files
 few:f.files.length<=17592186044416
 par:I64 f.parent
 msg:f.msg.size<=140737488351232
theorem FlOk.keep {w:World}{f:FLV}(h:FlOk w X f)(a:Keeps X w w'):FlOk w' X f:=⟨h.files.keep a,h.few,h.par,h.msg⟩
theorem FlOk.less {w:World}{f:FLV}(h:FlOk w X f)(a:∀b∈Y,b∈X\/w.heap.size<=b):FlOk w Y f:=⟨h.files.less a,h.few,h.par,h.msg⟩
structure MkOk (w:World) (X:List Nat) (m:MV):Prop where
 row:Rd w w.heap.size 1 m.A m.new.length m.c (m.new.map (.int .i64))
 off:∀a,m.A=some a->0<m.new.length->a.block∉X
 few:m.new.length<=17592186044416
 old:I64 m.old
 new:∀x∈m.new,I64 x
theorem MkOk.keep {w:World}{m:MV}(h:MkOk w X m)(a:Keeps X w w'):MkOk w' X m:=⟨aBq h.row h.off a,h.off,h.few,h.old,h.new⟩
theorem MkOk.less {w:World}{m:MV}(h:MkOk w X m)(a:∀b∈Y,b∈X\/w.heap.size<=b):MkOk w Y m:=⟨h.row,aMq h.row h.off a,h.few,h.old,h.new⟩
structure RdFl (w:World) (B:Nat) (A:Option Addr) (n c:Nat) (l:List FLV):Prop where
 row:Rd w B 3 A n c (l.flatMap FLV.cells)
 len:l.length=n
 parts:∀f∈l,RdF w B f.A f.files.length f.c f.files/\f.files.length<=17592186044416/\I64 f.parent/\f.msg.size<=140737488351232
structure RdS (w:World) (B:Nat) (A:Option Addr) (n c:Nat) (l:List STV):Prop where
 row:Rd w B 2 A n c (l.flatMap STV.cells)
 len:l.length=n
 parts:∀f∈l,RdF w B f.A f.files.length f.c f.files/\f.files.length<=1000000/\I64 f.commit
section
variable {w w':World} {B B' n c:Nat} {A:Option Addr} {l:List FLV} {s:List STV}
theorem RdFl.to(h:RdFl w B A n c l)(b:Below B w w')(d:B<=B'):RdFl w' B' A n c l:=
 ⟨h.row.to b d,h.len,fun f a=>⟨(h.parts f a).1.to b d,(h.parts f a).2⟩⟩
theorem RdS.to(h:RdS w B A n c s)(b:Below B w w')(d:B<=B'):RdS w' B' A n c s:=
 ⟨h.row.to b d,h.len,fun f a=>⟨(h.parts f a).1.to b d,(h.parts f a).2⟩⟩
theorem RdFl.none_(w:World)(B:Nat):RdFl w B none 0 0 []:=⟨Rd.none_ _ _ _,rfl,fun _ h=>by cases h⟩
theorem RdS.none_(w:World)(B:Nat):RdS w B none 0 0 []:=⟨Rd.none_ _ _ _,rfl,fun _ h=>by cases h⟩
theorem RdFl.get(h:RdFl w B A n c l){k:Nat}(i:k<n):∃b o f,A=some ⟨b,o,none⟩/\b<B/\l[k]? = some f/\f∈l/\
  w.cell? ⟨b,o+k*3,none⟩=some (.int .i64 f.parent)/\w.cell? ⟨b,o+k*3+1,none⟩=some (.string f.msg)/\w.cell? ⟨b,o+k*3+2,none⟩=some (.slice f.A f.files.length f.c):=by
 obtain ⟨b,o,f,e,g,d,_,a⟩:=T.rd_flat FLV.cells_len O h.row h.len i;exact ⟨b,o,f,e,g,d,aC d,a 0 _ rfl,a 1 _ rfl,a 2 _ rfl⟩
theorem RdS.get(h:RdS w B A n c s){k:Nat}(i:k<n):∃b o f,A=some ⟨b,o,none⟩/\b<B/\s[k]? = some f/\f∈s/\
  w.cell? ⟨b,o+k*2,none⟩=some (.int .i64 f.commit)/\w.cell? ⟨b,o+k*2+1,none⟩=some (.slice f.A f.files.length f.c):=by
 obtain ⟨b,o,f,e,g,a,_,d⟩:=T.rd_flat STV.cells_len O h.row h.len i;exact ⟨b,o,f,e,g,a,aC a,d 0 _ rfl,d 1 _ rfl⟩
end
theorem aHy:Elem prog 22 40 3 48:=aCa T
theorem aEi(l:List FLV):∀u∈l.flatMap FLV.cells,u.oneCell'=true:=by
 intro u b;obtain ⟨f,_,a⟩:=dF.1 b;simp[FLV.cells] at a;rcases a with rfl | rfl | rfl<;>rfl
theorem aOu(l:List MV):∀u∈l.flatMap MV.cells,u.oneCell'=true:=by
 intro u b;obtain ⟨f,_,a⟩:=dF.1 b;simp[MV.cells] at a;rcases a with rfl | rfl<;>rfl
theorem aIs {w:World}{c k:Nat}{A:Option Addr}{l:List ByteArray}(h:Rd w B 1 A n c (l.map .string))(d:i<=k)(e:k<=n) :
  Rd w B 1 (if c=i then A else A.map (·.add i)) (k-i) (c-i) ((sliceF l i k).map .string)/\(sliceF l i k).length=k-i:=by
 have a:=h.cut1 d e;rw[<-ig,<-eO] at a;have b:=a.len;rw[az,bW] at b;exact ⟨a,b⟩
theorem aVr {c:Nat}(u:World)(cs:Array Value)(h:c∈l):Keeps l u (u.setRow c cs):=
 ⟨by simp,fun p b a=>cw (dA u c p.block cs (fun e=>a (e▸h)))⟩
theorem aAk {w:World}{g k:Nat}{cs:Array Value}(h:w.heap[g]? = some (.cells cs t (0,0))):w.frozen? ⟨g,k,none⟩=false:=by
 simp[World.frozen?,h]
theorem aCf {w:World}{g k:Nat}(h:b≠g):(w.setCell ⟨g,k,none⟩ v).cell? ⟨b,o,none⟩=w.cell? ⟨b,o,none⟩:=
 eX _ _ _ _ (fun e=>h (by injection e with e1 _ _;exact e1.symm))
theorem aHx {w:World}{g c j k:Nat}(u v x:Value)(h:c≠g):(((w.setCell ⟨g,i,none⟩ u).setCell ⟨g,j,none⟩ v).setCell ⟨g,k,none⟩ x).heap[c]? = w.heap[c]?:=
 (Below.heap_setCell _ _ _ c h).trans ((Below.heap_setCell _ _ _ c h).trans (Below.heap_setCell _ _ _ c h))
theorem aHh(w:World)(a b c d:Value):Rd (w.alloc (.cells #[a,b,c,d] 143)) (w.alloc (.cells #[a,b,c,d] 143)).heap.size 4 (some ⟨w.heap.size,0,none⟩) 1 1 [a,b,c,d]:=
 ⟨rfl,aa _,fun _=>⟨_,0,rfl,by simp,fun j u e=>by
  rw[aO,World.cell?,au];simpa using e⟩⟩
theorem aGp {a:Nat}{N:Nat}(h:N<=a):∀b∈a::l,b∈l\/N<=b:=fun b c=>by
 rcases ax.1 c with rfl | c
 ·exact .inr h
 exact .inl c
def PK (w w':World):Prop:=∀(g:Nat) (u v:Value) (fr:Nat×Nat),w.heap[g]? = some (.cells #[u,v] 273 fr)->w'.cell? ⟨g,0,none⟩=some u/\w'.cell? ⟨g,1,none⟩=some v
theorem bLr {w W X:World}{h c:Nat}(r:∀(g:Nat)(u v:Value)(f:Nat×Nat),w.heap[g]? = some (.cells #[u,v] 273 f)->g<h/\g∉l/\w.cell? ⟨g,0,none⟩=some u/\w.cell? ⟨g,1,none⟩=some v)
  (j:∀p:Addr,p.block<h->W.cell? p=w.cell? p) (a:h<=W.heap.size) (s:W.heap.size<=c) (k:Keeps (c::l) W X):PK w X:=fun g u v f q=>by
 obtain ⟨b,m,n,o⟩:=r g u v f q
 have i:g∉c::l:=fun d=>by
  rcases ax.1 d with e | d
  ·omega
  exact m d
 exact ⟨(k.2 ⟨g,0,none⟩ (ag b a) i).trans ((j ⟨g,0,none⟩ b).trans n),(k.2 ⟨g,1,none⟩ (ag b a) i).trans ((j ⟨g,1,none⟩ b).trans o)⟩
theorem aWg {w:World}{e:TypeId}{k:Nat}{xs:List Value}(h:w.ownsRow B e k v n xs){g:Nat}(b:v.ownBlock=some g):∃a,w.heap[g]? = some (.cells a e (0,0)):=by
 obtain ⟨l,c⟩:=h;rcases c with ⟨rfl,_⟩ | ⟨m,cap,a,rfl,d,f,i,j,o⟩
 ·cases b
 simp[Value.ownBlock] at b;subst b;exact ⟨a,by first | exact f | exact d | exact i | exact j⟩
theorem aAr {w:World}{A:Option Addr}{c:Nat}(h:Rd w' w'.heap.size 1 A xs.length c (xs.map .string))(e:∀a,A=some a->w.heap.size<=a.block)(f:∀b∈l,b<w.heap.size):RdO w' l A c xs:=
 ⟨h,fun a ha _ d=>by have:=e a ha;have:=f _ d;omega⟩
theorem all_cons {p:Nat->Prop}{c:Nat}(h:p c)(d:∀b∈l,p b):∀b∈c::l,p b:=fun b a=>by
 rcases ax.1 a with rfl | a
 ·exact h
 exact d b a
theorem aDd {W:World}(u:World)(h:Below W.heap.size W u):∃c a,c=u.heap.size/\a=u.alloc (.cells #[.int .i64 0,.slice none 0 0,.slice none 0 0,.slice none 0 0] 143)/\a.heap[c]? = some (.cells #[.int .i64 0,.slice none 0 0,.slice none 0 0,.slice none 0 0] 143 (0,0))/\(W.heap.size<=c/\c<a.heap.size)/\Below u.heap.size u a:=
 ⟨_,_,rfl,rfl,au _ _,⟨h.size,by simp⟩,(Below.refl _ _).alloc (aa _) _⟩
set_option pp.deepTerms true in
set_option pp.maxSteps 1000000 in
theorem bLk {w0 w:World}{Ab Ao At:Option Addr}{nb cb no co nt ct t x y:Nat}{base oq nF:List ByteArray}{L:List KV}
  (d:Rd w0 w0.heap.size 1 Ab nb cb (base.map .string)) (ho:Rd w0 w0.heap.size 1 Ao no co (oq.map .string)) (ht:Rd w0 w0.heap.size 1 At nt ct (nF.map .string))
  (qh:nb<=100000) (qi:no<=100000) (qj:nt<=100000) (hL:L.length<=1000000)
  (h:TX w0 w tb (.slice Ab nb cb) (.slice Ao no co) (.slice At nt ct) b o t L) (h1:b<=i) (h2:i<=nb) (h3:o<=x) (h4:x<=no) (h5:t<=y) (h6:y<=nt) :
  Calls prog 217 #[.pointer (some ⟨tb,0,none⟩),.int .i64 i,.agg #[.int .i64 x,.int .i64 y]] w fun e w'=>e=.returned (.tuple #[])/\TX w0 w' tb (.slice Ab nb cb) (.slice Ao no co) (.slice At nt ct) i x y (L++betweenF (sliceF base b i) (sliceF oq o x) (sliceF nF t y))/\PK w w':=by
 have oJ:=h.hi;have nR:=h.lo;obtain ⟨z,H,nQ,oI,pG,hK⟩:=h.ex;have ff:=hid h.bel;have p7:=d.cap;obtain ⟨pH,pd⟩:=aIs d h1 h2;obtain ⟨pI,pe⟩:=aIs ho h3 h4;obtain ⟨pJ,pg⟩:=aIs ht h5 h6;generalize sliceF base b i=X at *;generalize sliceF oq o x=Y at *;generalize sliceF nF t y=Z at *;have nz:=hid nQ;have nY:=hid oI;have HK:=hid hK;have nA:=hid (And.intro pd (And.intro pe pg));have pQ:=hid pH;have pR:=hid pI;have pS:=hid pJ;have I:=d.cap;have p8:=ho.cap;have qa:=ht.cap;have nS:=hid pG;clear nQ oI hK pd pe pg pH pI pJ d ho ht pG h;have oK:Below w.heap.size w (w.alloc (.cells #[.int .i64 x,.int .i64 y] 273)):=(Below.refl _ _).alloc (aa _) _
 have kk:∀k v,(#[Value.slice Ab nb cb,Value.slice Ao no co,Value.slice At nt ct,.int .i64 b,.int .i64 o,.int .i64 t,z]:Array Value)[k]? = some v->(w.alloc (.cells #[.int .i64 x,.int .i64 y] 273)).drew.cell? ⟨tb,k,none⟩=some v:=fun k v hv=>
  (oK.cell (p:=⟨tb,k,none⟩) oJ).trans (by rw[ab nz.out];exact hv)
 have k0:(w.alloc (.cells #[.int .i64 x,.int .i64 y] 273)).drew.cell? ⟨tb,0,none⟩=some (.slice Ab nb cb):=kk 0 _ rfl;have k1:(w.alloc (.cells #[.int .i64 x,.int .i64 y] 273)).drew.cell? ⟨tb,1,none⟩=some (.slice Ao no co):=kk 1 _ rfl;have k2:(w.alloc (.cells #[.int .i64 x,.int .i64 y] 273)).drew.cell? ⟨tb,2,none⟩=some (.slice At nt ct):=kk 2 _ rfl;have k3:(w.alloc (.cells #[.int .i64 x,.int .i64 y] 273)).drew.cell? ⟨tb,3,none⟩=some (.int .i64 b):=kk 3 _ rfl;have k4:(w.alloc (.cells #[.int .i64 x,.int .i64 y] 273)).drew.cell? ⟨tb,4,none⟩=some (.int .i64 o):=kk 4 _ rfl;have k5:(w.alloc (.cells #[.int .i64 x,.int .i64 y] 273)).drew.cell? ⟨tb,5,none⟩=some (.int .i64 t):=kk 5 _ rfl
 have x0:(w.alloc (.cells #[.int .i64 x,.int .i64 y] 273)).drew.cell? ⟨w.heap.size,0,none⟩=some (.int .i64 x):=by
  show (w.alloc (.cells #[.int .i64 x,.int .i64 y] 273)).cell? ⟨w.heap.size,0,none⟩=_;rw[World.cell?,au];rfl
 have x1:(w.alloc (.cells #[.int .i64 x,.int .i64 y] 273)).drew.cell? ⟨w.heap.size,1,none⟩=some (.int .i64 y):=by
  show (w.alloc (.cells #[.int .i64 x,.int .i64 y] 273)).cell? ⟨w.heap.size,1,none⟩=_;rw[World.cell?,au];rfl
 clear kk;have ou:w.heap.size<(w.alloc (.cells #[.int .i64 x,.int .i64 y] 273)).drew.heap.size:=by show _<(w.alloc _).heap.size;simp
 have nj:=hid oK.drew;clear oK;have E:tb<(w.alloc (.cells #[.int .i64 x,.int .i64 y] 273)).drew.heap.size:=ω
 have nk:Hid (∀b∈tb::obs z,b<(w.alloc (.cells #[.int .i64 x,.int .i64 y] 273)).drew.heap.size):=by
  refine all_cons E (fun b d=>?_);have:=(nY.out.lt b (aFc d)).2;omega
 have nT:(prog.info? 143).map (·.size)=some 4:=κ;go_enter Tryz.func217,Tryz.ntmps217;go_wp2;rename_i Kc qd;generalize (w.alloc (.cells #[.int .i64 x,.int .i64 y] 273))=W0 at *
 have pm:Hid (∀u,Below W0.drew.heap.size W0.drew u->Calls prog 260 #[.slice (if cb=b then Ab else Ab.map (·.add b)) (i-b) (cb-b)] u (FreshS X u)):=fun u hu=>by
  have d:=ff.out.trans ((nj.out.trans (hu.mono nj.out.size)).mono ff.out.size);have:=pQ.out.to d d.size;rw[<-nA.out.1] at this ⊢;exact aHi (by have:=nA.out.1;omega) this
 have ow:Hid (∀u,Below W0.drew.heap.size W0.drew u->Calls prog 260 #[.slice (if co=o then Ao else Ao.map (·.add o)) (x-o) (co-o)] u (FreshS Y u)):=fun u hu=>by
  have d:=ff.out.trans ((nj.out.trans (hu.mono nj.out.size)).mono ff.out.size);have:=pR.out.to d d.size;rw[<-nA.out.2.1] at this ⊢;exact aHi (by have:=nA.out.2.1;omega) this
 have nU:Hid (∀u,Below W0.drew.heap.size W0.drew u->Calls prog 260 #[.slice (if ct=t then At else At.map (·.add t)) (y-t) (ct-t)] u (FreshS Z u)):=fun u hu=>by
  have d:=ff.out.trans ((nj.out.trans (hu.mono nj.out.size)).mono ff.out.size);have:=pS.out.to d d.size;rw[<-nA.out.2.2] at this ⊢;exact aHi (by have:=nA.out.2.2;omega) this
 have pT:=hid ((nj.out.block tb oJ).trans nz.out);have pU:Hid (w.heap.size≠tb):=hid (gX oJ);generalize pP:W0.drew=W at *;have oL:=hid (ff.out.trans (nj.out.mono ff.out.size));have oB:=hid (aAf nY.out nj.out);have pn:=hid (KIns.keep (Keeps.of_below nj.out) HK.out);have po:Hid (∀p:Addr,p.block<w.heap.size->W.cell? p=w.cell? p):=hid (fun p hp=>nj.out.cell hp);have oC:Hid (w.heap.size<=W.heap.size):=hid nj.out.size
 have pq:Hid (∀(g:Nat) (u v:Value) (fr:Nat×Nat),w.heap[g]? = some (.cells #[u,v] 273 fr)->g<w.heap.size/\g∉tb::obs z/\w.cell? ⟨g,0,none⟩=some u/\w.cell? ⟨g,1,none⟩=some v):=hid (fun g u v fr hg=>by
  refine ⟨?_,fun hm=>?_,by rw[ab hg];rfl,by rw[ab hg];rfl⟩
  ·rcases bo g w.heap.size with h2 | h2
   ·exact h2
   rw[br h2] at hg;cases hg
  rcases ax.1 hm with rfl | hm
  ·have h3:=nz.out
   rw[hg] at h3;injection h3 with h3;injection h3 with _ h4 _;exact absurd h4 (by decide)
  obtain ⟨qf,h3⟩:=aWg nY.out (aFc hm);rw[hg] at h3;injection h3 with h3;injection h3 with _ h4 _;exact absurd h4 (by decide))
 generalize w.heap.size=bx at *;refine aAv (fun u=>Below W.heap.size W u) (.q 0 (.q 1 (.q 2 (.q 3 (.q 4 (.q 5 (.q 6 (.q 7 (.q 8 (.q 9 (.q 11 (.q 12 (.q 13 (.q 14 (.q 15 (.q 17 (.q 18 (.q 21 (.q 22 (.q 23 (.q 24 (.q 25 (.q 27 (.q 28 (.two 10 (.two 16 (.q 19 (.two 20 (.two 26 (.q 29 (.two 30 (.b 31 (.one 32 (.one 33 .leaf))) 32 (.one 30 (.b 31 (.one 33 .leaf))))) 32 (.one 26 (.q 29 (.one 30 (.b 31 (.one 33 .leaf)))))) 32 (.one 20 (.one 26 (.q 29 (.one 30 (.b 31 (.one 33 .leaf)))))))) 32 (.one 16 (.q 19 (.one 20 (.one 26 (.q 29 (.one 30 (.b 31 (.one 33 .leaf))))))))) 32 (.one 10 (.one 16 (.q 19 (.one 20 (.one 26 (.q 29 (.one 30 (.b 31 (.one 33 .leaf)))))))))))))))))))))))))))))))))) mixed κ (show Below W.heap.size W W0.drew by rw[pP];exact Below.refl _ _) ?_;intro Tp M Q J ol hM hQ;have m0:=hM ⟨tb,0,none⟩ _ fun w' hw=>(hw.cell (p:=⟨tb,0,none⟩) E).trans k0;have m1:=hM ⟨tb,1,none⟩ _ fun w' hw=>(hw.cell (p:=⟨tb,1,none⟩) E).trans k1;have m2:=hM ⟨tb,2,none⟩ _ fun w' hw=>(hw.cell (p:=⟨tb,2,none⟩) E).trans k2;have m3:=hM ⟨tb,3,none⟩ _ fun w' hw=>(hw.cell (p:=⟨tb,3,none⟩) E).trans k3;have m4:=hM ⟨bx,0,none⟩ _ fun w' hw=>(hw.cell (p:=⟨bx,0,none⟩) ou).trans x0;have m5:=hM ⟨bx,1,none⟩ _ fun w' hw=>(hw.cell (p:=⟨bx,1,none⟩) ou).trans x1;clear hM;rw[pP];refine aCu ?_;intro O N;have t0:=N true 0;have t1:=N true 1;have t2:=N true 2;have t3:=N true 3;have t4:=N true 4;have t5:=N true 5;have t6:=N true 6;have t7:=N true 7;have t8:=N true 8;have t9:=N true 9;have oM:=N true 11;have oN:=N true 12;have oO:=N true 13
 have oP:=N true 14;have oQ:=N true 15;have oR:=N true 17;have oS:=N true 18;have oT:=N true 21;have oU:=N true 22;have oV:=N true 23;have oW:=N true 24;have oX:=N true 25;have oY:=N true 27;have oZ:=N true 28;have nZ:=N true 19;have nL:=N true 29;have oz:=N false 10;have n5:=N false 16;have nV:=N false 20;have nM:=N false 26;have nG:=N false 30;have nH:=N false 32;have nI:=N false 33;have nJ:=N true 31;simp only[qcmp] at t0 t1 t2 t3 t4 t5 t6 t7 t8 t9 oM oN oO oP oQ oR oS oT oU oV oW oX oY oZ nZ nL oz n5 nV nM nG nJ nH nI;clear N;simp (maxSteps:=9^7) only[↓wt_q,↓aBe,t0,t1,t2,t3,t4,t5,t6,t7,t8,t9,oM,oN,oO,oP,oQ,oR,oS,oT,oU,oV,oW,oX,oY,oZ,oz,nH,↓qpre,aAb,aAg,aAc,m0,m1,m2,m3,m4,m5];clear t0 t1 t2 t3 t4 t5 t6 t7 t8 t9 oM oN oO oP oQ oR oS oT oU oV oW oX oY oZ m0 m1 m2 m3 m4 m5;have f:=hid (show Below W.heap.size W W from Below.refl _ _);refine ⟨⟨ω,ω⟩,?_⟩;simp only[sliced,bW]
 have ns:∀(u:World) (c:Nat) (A0:Option Addr) (c0:Nat) (A1:Option Addr) (c1:Nat) (A2:Option Addr) (c2:Nat),Below W.heap.size W u->u.heap[c]? = some (.cells #[.int .i64 0,.slice none 0 0,.slice none 0 0,.slice none 0 0] 143 (0,0))->(W.heap.size<=c/\c<u.heap.size)->
   RdO u (c::tb::obs z) A0 c0 X->RdO u (c::tb::obs z) A1 c1 Y->RdO u (c::tb::obs z) A2 c2 Z->
   wt prog Tp M O Q PT.leaf ⟨#[Value.pointer (some ⟨tb,0,none⟩),Value.int IntKind.i64 ↑i,Value.agg #[Value.int IntKind.i64 ↑x,Value.int IntKind.i64 ↑y],undef,undef,Value.pointer (some ⟨bx,0,none⟩),Value.pointer (some ⟨c,0,none⟩),Value.pointer (some ⟨tb,0,none⟩),Value.pointer (some ⟨tb,0,none⟩),Value.pointer (some ⟨tb,0,none⟩),Value.slice Ab nb cb,Value.pointer (some ⟨tb,0,none⟩),Value.pointer (some ⟨tb,0,none⟩),Value.pointer (some ⟨tb,3,none⟩),Value.int IntKind.i64 ↑b,Value.int IntKind.i64 ↑i,Value.slice (if cb=b then Ab else Option.map (fun x=>x.add b) Ab) (i-b) (cb-b),Value.slice A0 X.length c0,Value.pointer (some ⟨tb,0,none⟩),Value.pointer (some ⟨tb,0,none⟩),Value.pointer (some ⟨tb,1,none⟩),Value.slice Ao no co,Value.pointer (some ⟨tb,0,none⟩),Value.int IntKind.i64 ↑o,Value.pointer (some ⟨bx,0,none⟩),Value.int IntKind.i64 ↑x,Value.slice (if co=o then Ao else Option.map (fun x=>x.add o) Ao) (x-o) (co-o),Value.slice A1 Y.length c1,Value.pointer (some ⟨tb,0,none⟩),Value.pointer (some ⟨tb,0,none⟩),Value.pointer (some ⟨tb,2,none⟩),Value.slice At nt ct,Value.pointer (some ⟨tb,0,none⟩),Value.int IntKind.i64 ↑t,Value.pointer (some ⟨bx,1,none⟩),Value.int IntKind.i64 ↑y,Value.slice (if ct=t then At else Option.map (fun x=>x.add t) At) (y-t) (ct-t),Value.slice A2 Z.length c2,Value.agg #[Value.int IntKind.i64 0,Value.slice A0 X.length c0,Value.slice A1 Y.length c1,Value.slice A2 Z.length c2],undef,undef,undef,undef,undef,undef,undef,undef,undef,undef,undef,undef,undef,undef,undef,undef,undef,undef,undef,undef,undef,undef,undef,undef,undef,undef,undef,undef,undef,undef,undef,undef,undef],[]⟩ (u.setRow c #[.int .i64 0,.slice A0 X.length c0,.slice A1 Y.length c1,.slice A2 Z.length c2]):=by
  clear J ol nZ nL oz n5 nV nM nG nJ nH nI
  intro u c A0 c0 A1 c1 A2 c2 hS I G pK pL pM
  refine hQ _ _ ?_
  clear hQ f
  generalize (if cb=b then Ab else Option.map (fun x=>x.add b) Ab)=qk
  generalize (if co=o then Ao else Option.map (fun x=>x.add o) Ao)=ql
  generalize (if ct=t then At else Option.map (fun x=>x.add t) At)=qm
  have HU:=hid (aAj (cs:=#[.int .i64 0,.slice A0 X.length c0,.slice A1 Y.length c1,.slice A2 Z.length c2]) hS G.1)
  have oA:=hid (aVr (l:=c::tb::obs z) (c:=c) u #[.int .i64 0,.slice A0 X.length c0,.slice A1 Y.length c1,.slice A2 Z.length c2] (by simp))
  have s:=hid (pK.keep oA.out)
  have A:=hid (pL.keep oA.out)
  have D:=hid (pM.keep oA.out)
  have nr:=hid (bB u c _ #[.int .i64 0,.slice A0 X.length c0,.slice A1 Y.length c1,.slice A2 Z.length c2] _ _ I)
  have pr:c<(u.setRow c #[.int .i64 0,.slice A0 X.length c0,.slice A1 Y.length c1,.slice A2 Z.length c2]).heap.size:=by simpa using G.2
  have nO:=G.1
  have pt:=hid (aAf oB.out HU.out)
  have pV:=hid (KIns.keep (Keeps.of_below (HU.out)) pn.out)
  clear hS I G pK pL pM oA
  generalize u.setRow c #[.int .i64 0,.slice A0 X.length c0,.slice A1 Y.length c1,.slice A2 Z.length c2]=U at *
  have HT:=hid ((HU.out.block tb E).trans pT.out)
  have nm:=hid (Keeps.of_below (l:=c::tb::obs z) HU.out)
  have n7:=(HU.out.cell (p:=⟨bx,0,none⟩) ou).trans x0
  have n8:=(HU.out.cell (p:=⟨bx,1,none⟩) ou).trans x1
  have oD:tb≠c:=ω
  have nu:bx≠tb:=pU.out
  go_wp2
  refine aAe (fun w'=>w'.cell? ⟨bx,0,none⟩=some (.int .i64 x)/\w'.cell? ⟨bx,1,none⟩=some (.int .i64 y)) [(true,0),(true,1),(true,2),(true,3),(true,4),(true,5),(false,6),(true,7),(true,8),(false,9)] mixed κ ⟨n7,n8⟩ ?_
  intro Tp M Q J ol hM hQ
  have m0:=hM ⟨bx,0,none⟩ _ fun w' hw=>hw.1
  have m1:=hM ⟨bx,1,none⟩ _ fun w' hw=>hw.2
  clear hM
  simp only[qcmp]
  simp (maxSteps:=9^7) only[↓qpre,aAb,aAg,aAc,m0,m1]
  clear m0 m1
  have nW:=hid (a8 U.drew tb 3 _ _ (.int .i64 i) HT.out)
  have pu:=hid (a8 _ tb 4 _ _ (.int .i64 x) nW.out)
  have pw:=hid (a8 _ tb 5 _ _ (.int .i64 y) pu.out)
  have pz:(U.drew.cell? ⟨tb,3,none⟩).isSome=true:=by
   show (U.cell? ⟨tb,3,none⟩).isSome=true;rw[ab HT.out];rfl
  have pA:=aAk (k:=3) HT.out
  have y0:(U.drew.setCell ⟨tb,3,none⟩ (.int .i64 i)).cell? ⟨bx,0,none⟩=some (.int .i64 x):=(aCf (by exact nu)).trans n7
  have y1:(U.drew.setCell ⟨tb,3,none⟩ (.int .i64 i)).cell? ⟨bx,1,none⟩=some (.int .i64 y):=(aCf (by exact nu)).trans n8
  refine aBa (v:=.int .i64 i) (b:=tb) (o:=3) κ rfl rfl pz pA rfl ⟨J _ ⟨y0,y1⟩,?_⟩
  simp (maxSteps:=9^7) only[↓qpre,aAb,aAg,aAc]
  refine aKs (u0:=.int .i64 x) (u1:=.int .i64 y) (b:=tb) (o:=4) κ rfl rfl (by rw[ab nW.out];rfl) (by rw[ab nW.out];rfl) (aAk nW.out) (aAk nW.out) rfl rfl ⟨J _ ⟨?_,?_⟩,?_⟩
  ·exact (aCf (by exact nu)).trans ((aCf (by exact nu)).trans y0)
  ·exact (aCf (by exact nu)).trans ((aCf (by exact nu)).trans y1)
  simp (maxSteps:=9^7) only[aAb]
  refine hQ _ _ ?_
  have HG:Hid (Keeps (c::tb::obs z) U (((U.drew.setCell ⟨tb,3,none⟩ (.int .i64 i)).setCell ⟨tb,4,none⟩ (.int .i64 x)).setCell ⟨tb,5,none⟩ (.int .i64 y))):=
   hid (((Keeps.refl _ U).drew.trans (Keeps.grown (aAy U.drew tb 3 (.int .i64 i)) (by simp))).trans ((Keeps.grown (aAy _ tb 4 (.int .i64 x)) (by simp)).trans (Keeps.grown (aAy _ tb 5 (.int .i64 y)) (by simp))))
  have nB:=hid ((((oL.out.trans (HU.out.mono oL.out.size)).drew.setCell (p:=⟨tb,3,none⟩) nR (.int .i64 i)).setCell (p:=⟨tb,4,none⟩) nR (.int .i64 x)).setCell (p:=⟨tb,5,none⟩) nR (.int .i64 y))
  have nw:=hid ((aHx (w:=U.drew) (g:=tb) (c:=c) (i:=3) (j:=4) (k:=5) (.int .i64 i) (.int .i64 x) (.int .i64 y) (fun e=>oD e.symm)).trans nr.out)
  have nN:=hid (aK (aK (aK pt.out.drew (a:=⟨tb,3,none⟩) nS.out (.int .i64 i)) (a:=⟨tb,4,none⟩) nS.out (.int .i64 x)) (a:=⟨tb,5,none⟩) nS.out (.int .i64 y))
  have S:Hid ((((U.drew.setCell ⟨tb,3,none⟩ (.int .i64 i)).setCell ⟨tb,4,none⟩ (.int .i64 x)).setCell ⟨tb,5,none⟩ (.int .i64 y)).heap[tb]? = some (.cells #[.slice Ab nb cb,.slice Ao no co,.slice At nt ct,.int .i64 i,.int .i64 x,.int .i64 y,z] 278 (0,0))):=by
   have:=pw.out;unfold Hid;simpa using this
  have nC:=hid (KIns.keep HG.out (KIns.keep (Keeps.of_below HU.out) (KIns.less (m:=c::tb::obs z) (fun b d=>by
   rcases ax.1 d with h | h
   ·exact .inr (by rw[h];exact nO)
   exact .inl h) pn.out)))
  have nm:=hid (nm.out.trans HG.out)
  have s:=hid (s.out.keep HG.out)
  have A:=hid (A.out.keep HG.out)
  have D:=hid (D.out.keep HG.out)
  have nD:=ag pr HG.out.1
  have nE:=ag (ag E HU.out.size) HG.out.1
  clear nW pu pw HG HT nr J ol n7 n8 y0 y1 pt pV pz pA pr
  generalize (((U.drew.setCell ⟨tb,3,none⟩ (.int .i64 i)).setCell ⟨tb,4,none⟩ (.int .i64 x)).setCell ⟨tb,5,none⟩ (.int .i64 y))=V at *
  have o6:V.cell? ⟨c,0,none⟩=some (.int .i64 0):=by rw[ab nw.out];rfl
  have o8:V.cell? ⟨c,1,none⟩=some (.slice A0 X.length c0):=by rw[ab nw.out];rfl
  have pa:V.cell? ⟨c,2,none⟩=some (.slice A1 Y.length c1):=by rw[ab nw.out];rfl
  have pc:V.cell? ⟨c,3,none⟩=some (.slice A2 Z.length c2):=by rw[ab nw.out];rfl
  have pd:X.length<=100000:=by have:=nA.out.1;omega
  have pe:Y.length<=100000:=by have:=nA.out.2.1;omega
  have pg:Z.length<=100000:=by have:=nA.out.2.2;omega
  have nP:=hid (show betweenF X Y Z=if X.length+Y.length+Z.length=0 then [] else [⟨kindF X Y Z,X,Y,Z⟩] from rfl)
  by_cases hz:X.length+Y.length+Z.length=0
  ·have HN:=hid (nP.out.trans (ao hz))
   clear nP
   go_wp2
   refine aI (aF rfl _ _ _) rfl ?_
   rw[HN.out,aR]
   exact ⟨rfl,⟨⟨z,H,S.out,nN.out,nS.out,nC.out.less (fun b d=>.inl (am _ d))⟩,nR,nB.out⟩,bLr pq.out po.out oC.out nO nm.out⟩
  have HN:=hid (nP.out.trans (ah hz))
  clear nP
  have pB:=bKb (K:=0) ω ω ω s.out.1 A.out.1 D.out.1
  generalize kindF X Y Z=F at *
  go_wp2_with fail
  refine pB.mono ?_
  rintro e V2 ⟨rfl,d⟩
  clear pB
  have nm:=hid (nm.out.trans (Keeps.of_below d))
  have S:=hid ((d.block tb nE).trans S.out)
  have nr:=hid ((d.block c nD).trans nw.out)
  have s:=hid (s.out.keep (Keeps.of_below d))
  have A:=hid (A.out.keep (Keeps.of_below d))
  have D:=hid (D.out.keep (Keeps.of_below d))
  have nC:=hid (nC.out.keep (Keeps.of_below d))
  have pC:Hid (z.ownBlock≠some c):=fun e=>by have:=(oB.out.lt c e).2;omega
  have nN:=hid (aAf nN.out d)
  have nB:=hid (nB.out.trans (d.mono nB.out.size))
  have nE:=ag nE d.size
  have nD:=ag nD d.size
  have pW:w0.heap.size<=c:=aw oL.out.size nO
  clear o6 o8 pa pc nw d
  have o6:V2.cell? ⟨c,0,none⟩=some (.int .i64 0):=by rw[ab nr.out];rfl
  have o8:V2.cell? ⟨c,1,none⟩=some (.slice A0 X.length c0):=by rw[ab nr.out];rfl
  have pa:V2.cell? ⟨c,2,none⟩=some (.slice A1 Y.length c1):=by rw[ab nr.out];rfl
  have pc:V2.cell? ⟨c,3,none⟩=some (.slice A2 Z.length c2):=by rw[ab nr.out];rfl
  have pX:V2.frozen? ⟨c,0,none⟩=false:=aAk nr.out
  go_wp2
  clear o6 o8 pa pc pX
  have od:Hid ((V2.setCell ⟨c,0,none⟩ (.int .i64 F)).heap[c]? = some (.cells #[.int .i64 F,.slice A0 X.length c0,.slice A1 Y.length c1,.slice A2 Z.length c2] 143 (0,0))):=by
   have:=a8 V2 c 0 _ _ (.int .i64 F) nr.out;unfold Hid;simpa using this
  have S:=hid ((Below.heap_setCell V2 ⟨c,0,none⟩ (.int .i64 F) tb (by exact oD)).trans S.out)
  have nK:=hid (Keeps.grown (l:=c::tb::obs z) (aAy V2 c 0 (.int .i64 F)) (by simp))
  have nm:=hid (nm.out.trans nK.out)
  have s:=hid (s.out.keep nK.out)
  have A:=hid (A.out.keep nK.out)
  have D:=hid (D.out.keep nK.out)
  have nC:=hid (nC.out.keep nK.out)
  have nN:=hid (aK nN.out (a:=⟨c,0,none⟩) pC.out (.int .i64 F))
  have nB:=hid (nB.out.setCell (p:=⟨c,0,none⟩) pW (.int .i64 F))
  have nE:=ag nE nK.out.1
  have nD:=ag nD nK.out.1
  clear nr nK
  generalize V2.setCell ⟨c,0,none⟩ (.int .i64 F)=V3 at *
  refine aAq (fun w'=>w'.heap[tb]? = some (.cells #[.slice Ab nb cb,.slice Ao no co,.slice At nt ct,.int .i64 i,.int .i64 x,.int .i64 y,z] 278 (0,0))/\w'.heap[c]? = some (.cells #[.int .i64 F,.slice A0 X.length c0,.slice A1 Y.length c1,.slice A2 Z.length c2] 143 (0,0)))
   [(true,0),(true,1),(true,2),(true,3),(true,4),(true,5),(false,6),(false,7),(true,8),(true,9)] [10] mixed κ ⟨S.out,od.out⟩ ?_
  intro Tp M Q Q2 J ol hM hQ pO
  have m0:M ⟨tb,6,none⟩=some z:=hM _ _ fun w' hw=>by rw[ab hw.1];rfl
  have m1:M ⟨c,0,none⟩=some (.int .i64 F):=hM _ _ fun w' hw=>by rw[ab hw.2];rfl
  have m2:M ⟨c,1,none⟩=some (.slice A0 X.length c0):=hM _ _ fun w' hw=>by rw[ab hw.2];rfl
  have m3:M ⟨c,2,none⟩=some (.slice A1 Y.length c1):=hM _ _ fun w' hw=>by rw[ab hw.2];rfl
  have m4:M ⟨c,3,none⟩=some (.slice A2 Z.length c2):=hM _ _ fun w' hw=>by rw[ab hw.2];rfl
  clear hM
  simp only[qcmp]
  simp (maxSteps:=9^7) only[↓qpre,aAb,aAg,aAc,m0,m1,m2,m3,m4]
  clear m0 m1 m2 m3 m4
  have nq:Below V3.heap.size V3 (V3.drew.alloc (.cells #[.int .i64 F,.slice A0 X.length c0,.slice A1 Y.length c1,.slice A2 Z.length c2] 143)):=(Below.refl _ _).drew.alloc (aa _) _
  have nm:=hid (nm.out.trans (Keeps.of_below nq))
  have S:=hid ((nq.block tb nE).trans S.out)
  have oe:=hid ((nq.block c nD).trans od.out)
  refine T.eff_lits (T.run_lits4 aDi _ _ _ _ _) rfl ⟨J _ ⟨S.out,oe.out⟩,?_⟩
  simp (maxSteps:=9^7) only[aAb,aAc]
  have oE:=hid (aHh V3.drew (.int .i64 F) (.slice A0 X.length c0) (.slice A1 Y.length c1) (.slice A2 Z.length c2))
  have oh:=hid (aAf nN.out nq)
  have ph:=hid (nB.out.trans (nq.mono nB.out.size))
  have s:=hid ((s.out.keep (Keeps.of_below nq)).less (m:=(V3.drew.alloc (.cells #[.int .i64 F,.slice A0 X.length c0,.slice A1 Y.length c1,.slice A2 Z.length c2] 143)).heap.size::c::tb::obs z) (aGp (aa _)))
  have A:=hid ((A.out.keep (Keeps.of_below nq)).less (m:=(V3.drew.alloc (.cells #[.int .i64 F,.slice A0 X.length c0,.slice A1 Y.length c1,.slice A2 Z.length c2] 143)).heap.size::c::tb::obs z) (aGp (aa _)))
  have D:=hid ((D.out.keep (Keeps.of_below nq)).less (m:=(V3.drew.alloc (.cells #[.int .i64 F,.slice A0 X.length c0,.slice A1 Y.length c1,.slice A2 Z.length c2] 143)).heap.size::c::tb::obs z) (aGp (aa _)))
  have nC:=hid ((nC.out.keep (Keeps.of_below nq)).less (m:=(V3.drew.alloc (.cells #[.int .i64 F,.slice A0 X.length c0,.slice A1 Y.length c1,.slice A2 Z.length c2] 143)).heap.size::c::tb::obs z) (aGp (aa _)))
  have nE:=ag nE nq.size
  have nD:=ag nD nq.size
  clear od nN nB nq
  have qc:V3.drew.heap.size=V3.heap.size:=rfl
  generalize V3.drew.alloc (.cells #[.int .i64 F,.slice A0 X.length c0,.slice A1 Y.length c1,.slice A2 Z.length c2] 143)=V4 at *
  refine aAo aDi (base:=w0.heap.size) (n:=L.length) rfl rfl oh.out oE.out (by intro u hu;simp at hu;rcases hu with rfl | rfl | rfl | rfl<;>rfl) (by unfold maxLen;omega) ω ph.out.size ?_
  intro v7 V5 pi nX pj
  obtain ⟨A7,c7,rfl,qg⟩:=aAd pi
  have oF:V5.heap[tb]? = V4.heap[tb]?:=nX.block tb nE (fun e=>nS.out e.symm)
  have oG:V5.heap[c]? = V4.heap[c]?:=nX.block c nD (fun e=>pC.out e.symm)
  have S:=hid (oF.trans S.out)
  refine ⟨J _ ⟨S.out,oG.trans oe.out⟩,?_⟩
  simp (maxSteps:=9^7) only[↓qpre,aAb,aAg,aAc]
  refine hQ _ _ ?_
  simp only[lates,List.map,qcmp]
  simp (maxSteps:=9^7) only[aAb]
  refine aBa (v:=.slice A7 (L.length+1) c7) (b:=tb) (o:=6) κ rfl rfl (by rw[ab S.out];rfl) (aAk S.out) rfl ⟨trivial,?_⟩
  simp (maxSteps:=9^7) only[aAb]
  refine pO _ _ ?_
  have pD:Hid ((V5.setCell ⟨tb,6,none⟩ (.slice A7 (L.length+1) c7)).heap[tb]? = some (.cells #[.slice Ab nb cb,.slice Ao no co,.slice At nt ct,.int .i64 i,.int .i64 x,.int .i64 y,.slice A7 (L.length+1) c7] 278 (0,0))):=by
   have:=a8 V5 tb 6 _ _ (.slice A7 (L.length+1) c7) S.out;unfold Hid;simpa using this
  have pE:=hid ((Keeps.grown (l:=V4.heap.size::c::tb::obs z) nX (fun g hg=>am _ (am _ (am _ (aEj hg))))).trans (Keeps.grown (aAy V5 tb 6 (.slice A7 (L.length+1) c7)) (by simp)))
  have nm:=hid (nm.out.trans ((Keeps.grown (l:=c::tb::obs z) nX (fun g hg=>am _ (am _ (aEj hg)))).trans (Keeps.grown (aAy V5 tb 6 (.slice A7 (L.length+1) c7)) (by simp))))
  have pF:Hid ((Value.slice A7 (L.length+1) c7).ownBlock≠some tb):=by
   rcases pj with h | h
   ·rw[h];exact nS.out
   rw[h];intro e;injection e with e;omega
  have pY:=hid (aK pi (a:=⟨tb,6,none⟩) pF.out (.slice A7 (L.length+1) c7))
  have pZ:=hid ((ph.out.grown nX ph.out.size (fun g hg=>(oh.out.lt g hg).1)).setCell (p:=⟨tb,6,none⟩) nR (.slice A7 (L.length+1) c7))
  have oH:Hid (∀b∈tb::obs (.slice A7 (L.length+1) c7),b∈V4.heap.size::c::tb::obs z):=by
   refine all_cons (by simp) (fun b d=>?_);rcases pj with h | h
   ·have:=aFc d;rw[h] at this;exact am _ (am _ (am _ (aEj this)))
   have:=aFc d;rw[h] at this;injection this with this;simp[this]
  have p6:=hid (((KIns.snoc (k:=⟨F,X,Y,Z⟩) nC.out ⟨A0,c0,A1,c1,A2,c2,rfl,s.out,A.out,D.out⟩).keep pE.out).less (fun b d=>.inl (oH.out b d)))
  clear hQ pO J ol s A D nC pE oH pi nX pj oh oE S oe oF oG
  go_wp2
  refine aI (aF rfl _ _ _) rfl ?_
  refine ⟨rfl,⟨⟨_,H++[[.int .i64 F,.slice A0 X.length c0,.slice A1 Y.length c1,.slice A2 Z.length c2]],pD.out,?_,pF.out,?_⟩,nR,pZ.out⟩,bLr pq.out po.out oC.out nO nm.out⟩
  ·rw[HN.out,ae,ia]
   exact pY.out
  rw[HN.out]
  exact p6.out
 refine ⟨?_,?_⟩
 ·refine aAh κ (pm.out _ f.out) rfl rfl ?_
  rintro e u1 ⟨A0,c0,rfl,P,R,d⟩;have s:=hid (aAr (l:=(tb::obs z)) P R (fun b d=>ag (nk.out b d) f.out.size));have f:=hid (f.out.trans (d.mono f.out.size));clear P R d;refine ⟨_,rfl,J _ f.out,?_⟩;simp (maxSteps:=9^7) only[↓aBe,n5,nH,aAb,aAc];refine ⟨?_,?_⟩
  ·refine aAh κ (aNk ((f.out.cell (p:=⟨tb,4,none⟩) E).trans k4)) rfl rfl ?_
   rintro e u2 ⟨rfl,rfl⟩;refine ⟨_,rfl,J _ f.out,?_⟩;simp (maxSteps:=9^7) only[↓wt_q,↓aBe,nZ,nV,nH,↓qpre,aAb,aAg,aAc];refine ⟨⟨ω,ω⟩,?_⟩;simp only[sliced,bW];refine ⟨?_,?_⟩
   ·refine aAh κ (ow.out _ f.out) rfl rfl ?_
    rintro e u3 ⟨A1,c1,rfl,P,R,d⟩;have A:=hid (aAr (l:=(tb::obs z)) P R (fun b d=>ag (nk.out b d) f.out.size));have s:=hid (s.out.keep (Keeps.of_below d));have f:=hid (f.out.trans (d.mono f.out.size));clear P R d;refine ⟨_,rfl,J _ f.out,?_⟩;simp (maxSteps:=9^7) only[↓aBe,nM,nH,aAb,aAc];refine ⟨?_,?_⟩
    ·refine aAh κ (aEh ((f.out.cell (p:=⟨tb,5,none⟩) E).trans k5)) rfl rfl ?_
     rintro e u4 ⟨rfl,rfl⟩;refine ⟨_,rfl,J _ f.out,?_⟩;simp (maxSteps:=9^7) only[↓wt_q,↓aBe,nL,nG,nH,↓qpre,aAb,aAg,aAc];refine ⟨⟨ω,ω⟩,?_⟩;simp only[sliced,bW];refine ⟨?_,?_⟩
     ·refine aAh κ (nU.out _ f.out) rfl rfl ?_
      rintro e u5 ⟨A2,c2,rfl,P,R,d⟩;have D:=hid (aAr (l:=(tb::obs z)) P R (fun b d=>ag (nk.out b d) f.out.size));have s:=hid (s.out.keep (Keeps.of_below d));have A:=hid (A.out.keep (Keeps.of_below d));have f:=hid (f.out.trans (d.mono f.out.size));clear P R d;refine ⟨_,rfl,J _ f.out,?_⟩;simp (maxSteps:=9^7) only[↓wt_b,nJ,aAb,aAc];refine aCc rfl (fun w=>aDf _ _ _ _ _ _ _ _ _ w) ?_;simp (maxSteps:=9^7) only[↓aAn,nH,aAb,aAc];refine aBr aCo ⟨J _ (f.out.alloc f.out.size _),?_⟩;simp (maxSteps:=9^7) only[↓aAn,nI,aAb,aAc];obtain ⟨c,u6,ec,eu,I,G,C⟩:=aDd _ f.out;simp only[Value.cells] at eu ⊢;rw[<-ec,<-eu];have s:=hid ((s.out.less (m:=c::tb::obs z) (fun b d=>by rcases ax.1 d with h | h;exact .inr (by rw[h,ec];exact aa _);exact .inl h)).keep (Keeps.of_below C));have A:=hid ((A.out.less (m:=c::tb::obs z) (fun b d=>by rcases ax.1 d with h | h;exact .inr (by rw[h,ec];exact aa _);exact .inl h)).keep (Keeps.of_below C));have D:=hid ((D.out.less (m:=c::tb::obs z) (fun b d=>by rcases ax.1 d with h | h;exact .inr (by rw[h,ec];exact aa _);exact .inl h)).keep (Keeps.of_below C));have f:=hid (f.out.trans (C.mono f.out.size));have B:=hid I;have r:=hid G;clear I G C ec eu;refine aAp rfl rfl B.out nT rfl (by simp[Value.oneCell']) ⟨J _ (aAj f.out r.out.1),?_⟩;simp (maxSteps:=9^7) only[aAb];exact ns _ _ _ _ _ _ _ _ f.out B.out r.out s.out A.out D.out
     refine aBr aCo ⟨J _ (f.out.alloc f.out.size _),?_⟩;simp (maxSteps:=9^7) only[↓aAn,nG,aAb,aAc];obtain ⟨c,u5,ec,eu,I,G,C⟩:=aDd _ f.out;simp only[Value.cells] at eu ⊢;rw[<-ec,<-eu];have s:=hid ((s.out.less (m:=c::tb::obs z) (fun b d=>by rcases ax.1 d with h | h;exact .inr (by rw[h,ec];exact aa _);exact .inl h)).keep (Keeps.of_below C));have A:=hid ((A.out.less (m:=c::tb::obs z) (fun b d=>by rcases ax.1 d with h | h;exact .inr (by rw[h,ec];exact aa _);exact .inl h)).keep (Keeps.of_below C));have f:=hid (f.out.trans (C.mono f.out.size));have B:=hid I;have r:=hid G;clear I G C ec eu;refine aAh κ (nU.out _ f.out) rfl rfl ?_;rintro e u6 ⟨A2,c2,rfl,P,R,d⟩;have D:=hid (aAr (l:=(c::tb::obs z)) P R (all_cons (by have:=r.out;have:=f.out.size;omega) (fun b d=>ag (nk.out b d) f.out.size)));have s:=hid (s.out.keep (Keeps.of_below d));have A:=hid (A.out.keep (Keeps.of_below d));have B:=hid ((d.block _ r.out.2).trans B.out);have r:=hid (And.intro r.out.1 (ag r.out.2 d.size));have f:=hid (f.out.trans (d.mono f.out.size));clear P R d;refine ⟨_,rfl,J _ f.out,?_⟩;simp (maxSteps:=9^7) only[↓wt_b,nJ,aAb,aAc];refine aCc rfl (fun w=>aDf _ _ _ _ _ _ _ _ _ w) ?_;simp (maxSteps:=9^7) only[↓aAn,nI,aAb,aAc];refine aAp rfl rfl B.out nT rfl (by simp[Value.oneCell']) ⟨J _ (aAj f.out r.out.1),?_⟩;simp (maxSteps:=9^7) only[aAb];exact ns _ _ _ _ _ _ _ _ f.out B.out r.out s.out A.out D.out
    refine aBr aCo ⟨J _ (f.out.alloc f.out.size _),?_⟩;simp (maxSteps:=9^7) only[↓aAn,nM,aAb,aAc];obtain ⟨c,u4,ec,eu,I,G,C⟩:=aDd _ f.out;simp only[Value.cells] at eu ⊢;rw[<-ec,<-eu];have s:=hid ((s.out.less (m:=c::tb::obs z) (fun b d=>by rcases ax.1 d with h | h;exact .inr (by rw[h,ec];exact aa _);exact .inl h)).keep (Keeps.of_below C));have A:=hid ((A.out.less (m:=c::tb::obs z) (fun b d=>by rcases ax.1 d with h | h;exact .inr (by rw[h,ec];exact aa _);exact .inl h)).keep (Keeps.of_below C));have f:=hid (f.out.trans (C.mono f.out.size));have B:=hid I;have r:=hid G;clear I G C ec eu;refine aAh κ (aEh ((f.out.cell (p:=⟨tb,5,none⟩) E).trans k5)) rfl rfl ?_;rintro e u5 ⟨rfl,rfl⟩;refine ⟨_,rfl,J _ f.out,?_⟩;simp (maxSteps:=9^7) only[↓wt_q,↓aAn,nL,nG,↓qpre,aAb,aAg,aAc];refine ⟨⟨ω,ω⟩,?_⟩;simp only[sliced,bW];refine aAh κ (nU.out _ f.out) rfl rfl ?_;rintro e u6 ⟨A2,c2,rfl,P,R,d⟩;have D:=hid (aAr (l:=(c::tb::obs z)) P R (all_cons (by have:=r.out;have:=f.out.size;omega) (fun b d=>ag (nk.out b d) f.out.size)));have s:=hid (s.out.keep (Keeps.of_below d));have A:=hid (A.out.keep (Keeps.of_below d));have B:=hid ((d.block _ r.out.2).trans B.out);have r:=hid (And.intro r.out.1 (ag r.out.2 d.size));have f:=hid (f.out.trans (d.mono f.out.size));clear P R d;refine ⟨_,rfl,J _ f.out,?_⟩;simp (maxSteps:=9^7) only[↓wt_b,nJ,aAb,aAc];refine aCc rfl (fun w=>aDf _ _ _ _ _ _ _ _ _ w) ?_;simp (maxSteps:=9^7) only[↓aAn,nI,aAb,aAc];refine aAp rfl rfl B.out nT rfl (by simp[Value.oneCell']) ⟨J _ (aAj f.out r.out.1),?_⟩
    simp (maxSteps:=9^7) only[aAb];exact ns _ _ _ _ _ _ _ _ f.out B.out r.out s.out A.out D.out
   refine aBr aCo ⟨J _ (f.out.alloc f.out.size _),?_⟩;simp (maxSteps:=9^7) only[↓aAn,nV,aAb,aAc];obtain ⟨c,u3,ec,eu,I,G,C⟩:=aDd _ f.out;simp only[Value.cells] at eu ⊢;rw[<-ec,<-eu];have s:=hid ((s.out.less (m:=c::tb::obs z) (fun b d=>by rcases ax.1 d with h | h;exact .inr (by rw[h,ec];exact aa _);exact .inl h)).keep (Keeps.of_below C));have f:=hid (f.out.trans (C.mono f.out.size));have B:=hid I;have r:=hid G;clear I G C ec eu;refine aAh κ (ow.out _ f.out) rfl rfl ?_;rintro e u4 ⟨A1,c1,rfl,P,R,d⟩;have A:=hid (aAr (l:=(c::tb::obs z)) P R (all_cons (by have:=r.out;have:=f.out.size;omega) (fun b d=>ag (nk.out b d) f.out.size)));have s:=hid (s.out.keep (Keeps.of_below d));have B:=hid ((d.block _ r.out.2).trans B.out);have r:=hid (And.intro r.out.1 (ag r.out.2 d.size));have f:=hid (f.out.trans (d.mono f.out.size));clear P R d;refine ⟨_,rfl,J _ f.out,?_⟩;simp (maxSteps:=9^7) only[↓aAn,nM,aAb,aAc];refine aAh κ (aEh ((f.out.cell (p:=⟨tb,5,none⟩) E).trans k5)) rfl rfl ?_;rintro e u5 ⟨rfl,rfl⟩;refine ⟨_,rfl,J _ f.out,?_⟩;simp (maxSteps:=9^7) only[↓wt_q,↓aAn,nL,nG,↓qpre,aAb,aAg,aAc];refine ⟨⟨ω,ω⟩,?_⟩;simp only[sliced,bW];refine aAh κ (nU.out _ f.out) rfl rfl ?_;rintro e u6 ⟨A2,c2,rfl,P,R,d⟩;have D:=hid (aAr (l:=(c::tb::obs z)) P R (all_cons (by have:=r.out;have:=f.out.size;omega) (fun b d=>ag (nk.out b d) f.out.size)));have s:=hid (s.out.keep (Keeps.of_below d));have A:=hid (A.out.keep (Keeps.of_below d));have B:=hid ((d.block _ r.out.2).trans B.out);have r:=hid (And.intro r.out.1 (ag r.out.2 d.size))
   have f:=hid (f.out.trans (d.mono f.out.size));clear P R d;refine ⟨_,rfl,J _ f.out,?_⟩;simp (maxSteps:=9^7) only[↓wt_b,nJ,aAb,aAc];refine aCc rfl (fun w=>aDf _ _ _ _ _ _ _ _ _ w) ?_;simp (maxSteps:=9^7) only[↓aAn,nI,aAb,aAc];refine aAp rfl rfl B.out nT rfl (by simp[Value.oneCell']) ⟨J _ (aAj f.out r.out.1),?_⟩;simp (maxSteps:=9^7) only[aAb];exact ns _ _ _ _ _ _ _ _ f.out B.out r.out s.out A.out D.out
  refine aBr aCo ⟨J _ (f.out.alloc f.out.size _),?_⟩;simp (maxSteps:=9^7) only[↓aAn,n5,aAb,aAc];obtain ⟨c,u2,ec,eu,I,G,C⟩:=aDd _ f.out;simp only[Value.cells] at eu ⊢;rw[<-ec,<-eu];have s:=hid ((s.out.less (m:=c::tb::obs z) (fun b d=>by rcases ax.1 d with h | h;exact .inr (by rw[h,ec];exact aa _);exact .inl h)).keep (Keeps.of_below C));have f:=hid (f.out.trans (C.mono f.out.size));have B:=hid I;have r:=hid G;clear I G C ec eu;refine aAh κ (aNk ((f.out.cell (p:=⟨tb,4,none⟩) E).trans k4)) rfl rfl ?_;rintro e u3 ⟨rfl,rfl⟩;refine ⟨_,rfl,J _ f.out,?_⟩;simp (maxSteps:=9^7) only[↓wt_q,↓aAn,nZ,nV,↓qpre,aAb,aAg,aAc];refine ⟨⟨ω,ω⟩,?_⟩;simp only[sliced,bW];refine aAh κ (ow.out _ f.out) rfl rfl ?_;rintro e u4 ⟨A1,c1,rfl,P,R,d⟩;have A:=hid (aAr (l:=(c::tb::obs z)) P R (all_cons (by have:=r.out;have:=f.out.size;omega) (fun b d=>ag (nk.out b d) f.out.size)));have s:=hid (s.out.keep (Keeps.of_below d));have B:=hid ((d.block _ r.out.2).trans B.out);have r:=hid (And.intro r.out.1 (ag r.out.2 d.size));have f:=hid (f.out.trans (d.mono f.out.size));clear P R d;refine ⟨_,rfl,J _ f.out,?_⟩;simp (maxSteps:=9^7) only[↓aAn,nM,aAb,aAc];refine aAh κ (aEh ((f.out.cell (p:=⟨tb,5,none⟩) E).trans k5)) rfl rfl ?_;rintro e u5 ⟨rfl,rfl⟩;refine ⟨_,rfl,J _ f.out,?_⟩;simp (maxSteps:=9^7) only[↓wt_q,↓aAn,nL,nG,↓qpre,aAb,aAg,aAc];refine ⟨⟨ω,ω⟩,?_⟩;simp only[sliced,bW];refine aAh κ (nU.out _ f.out) rfl rfl ?_;rintro e u6 ⟨A2,c2,rfl,P,R,d⟩;have D:=hid (aAr (l:=(c::tb::obs z)) P R (all_cons (by have:=r.out;have:=f.out.size;omega) (fun b d=>ag (nk.out b d) f.out.size)))
  have s:=hid (s.out.keep (Keeps.of_below d));have A:=hid (A.out.keep (Keeps.of_below d));have B:=hid ((d.block _ r.out.2).trans B.out);have r:=hid (And.intro r.out.1 (ag r.out.2 d.size));have f:=hid (f.out.trans (d.mono f.out.size));clear P R d;refine ⟨_,rfl,J _ f.out,?_⟩;simp (maxSteps:=9^7) only[↓wt_b,nJ,aAb,aAc];refine aCc rfl (fun w=>aDf _ _ _ _ _ _ _ _ _ w) ?_;simp (maxSteps:=9^7) only[↓aAn,nI,aAb,aAc];refine aAp rfl rfl B.out nT rfl (by simp[Value.oneCell']) ⟨J _ (aAj f.out r.out.1),?_⟩;simp (maxSteps:=9^7) only[aAb];exact ns _ _ _ _ _ _ _ _ f.out B.out r.out s.out A.out D.out
 refine aBr aCo ⟨J _ (f.out.alloc f.out.size _),?_⟩;simp (maxSteps:=9^7) only[↓aAn,oz,aAb,aAc];obtain ⟨c,u1,ec,eu,I,G,C⟩:=aDd _ f.out;simp only[Value.cells] at eu ⊢;rw[<-ec,<-eu];have f:=hid (f.out.trans (C.mono f.out.size));have B:=hid I;have r:=hid G;clear I G C ec eu;refine aAh κ (pm.out _ f.out) rfl rfl ?_;rintro e u2 ⟨A0,c0,rfl,P,R,d⟩;have s:=hid (aAr (l:=(c::tb::obs z)) P R (all_cons (by have:=r.out;have:=f.out.size;omega) (fun b d=>ag (nk.out b d) f.out.size)));have B:=hid ((d.block _ r.out.2).trans B.out);have r:=hid (And.intro r.out.1 (ag r.out.2 d.size));have f:=hid (f.out.trans (d.mono f.out.size));clear P R d;refine ⟨_,rfl,J _ f.out,?_⟩;simp (maxSteps:=9^7) only[↓aAn,n5,aAb,aAc];refine aAh κ (aNk ((f.out.cell (p:=⟨tb,4,none⟩) E).trans k4)) rfl rfl ?_;rintro e u3 ⟨rfl,rfl⟩;refine ⟨_,rfl,J _ f.out,?_⟩;simp (maxSteps:=9^7) only[↓wt_q,↓aAn,nZ,nV,↓qpre,aAb,aAg,aAc];refine ⟨⟨ω,ω⟩,?_⟩;simp only[sliced,bW];refine aAh κ (ow.out _ f.out) rfl rfl ?_;rintro e u4 ⟨A1,c1,rfl,P,R,d⟩;have A:=hid (aAr (l:=(c::tb::obs z)) P R (all_cons (by have:=r.out;have:=f.out.size;omega) (fun b d=>ag (nk.out b d) f.out.size)));have s:=hid (s.out.keep (Keeps.of_below d));have B:=hid ((d.block _ r.out.2).trans B.out);have r:=hid (And.intro r.out.1 (ag r.out.2 d.size));have f:=hid (f.out.trans (d.mono f.out.size));clear P R d;refine ⟨_,rfl,J _ f.out,?_⟩;simp (maxSteps:=9^7) only[↓aAn,nM,aAb,aAc];refine aAh κ (aEh ((f.out.cell (p:=⟨tb,5,none⟩) E).trans k5)) rfl rfl ?_;rintro e u5 ⟨rfl,rfl⟩;refine ⟨_,rfl,J _ f.out,?_⟩
 simp (maxSteps:=9^7) only[↓wt_q,↓aAn,nL,nG,↓qpre,aAb,aAg,aAc];refine ⟨⟨ω,ω⟩,?_⟩;simp only[sliced,bW];refine aAh κ (nU.out _ f.out) rfl rfl ?_;rintro e u6 ⟨A2,c2,rfl,P,R,d⟩;have D:=hid (aAr (l:=(c::tb::obs z)) P R (all_cons (by have:=r.out;have:=f.out.size;omega) (fun b d=>ag (nk.out b d) f.out.size)));have s:=hid (s.out.keep (Keeps.of_below d));have A:=hid (A.out.keep (Keeps.of_below d));have B:=hid ((d.block _ r.out.2).trans B.out);have r:=hid (And.intro r.out.1 (ag r.out.2 d.size));have f:=hid (f.out.trans (d.mono f.out.size));clear P R d;refine ⟨_,rfl,J _ f.out,?_⟩;simp (maxSteps:=9^7) only[↓wt_b,nJ,aAb,aAc];refine aCc rfl (fun w=>aDf _ _ _ _ _ _ _ _ _ w) ?_;simp (maxSteps:=9^7) only[↓aAn,nI,aAb,aAc];refine aAp rfl rfl B.out nT rfl (by simp[Value.oneCell']) ⟨J _ (aAj f.out r.out.1),?_⟩;simp (maxSteps:=9^7) only[aAb];exact ns _ _ _ _ _ _ _ _ f.out B.out r.out s.out A.out D.out
section
variable {P:Program} {ops:Array Oper} {S:World->Prop} {F Z:List Nat}
def wpAnyZ (P:Program)(ops:Array Oper)(Q:Exit->Act->World->Prop)(S:World->Prop)(F:List Nat):Nat->Array Bool->Act->World->Prop
 | 0,listed,a,w=>Region.ready .any ops listed=[]/\Q .normal a w
 | fuel+1,listed,a,w=>
  (Region.ready .any ops listed=[]->Q .normal a w)/\
  ∀i∈Region.ready .any ops listed,wpOp P ops Q i (fun a' w'=>(i∉F->S w->S w')/\wpAnyZ P ops Q S F fuel (listed.setIfInBounds i true) a' w') a w
variable {Q:Exit->Act->World->Prop}
theorem aHt:∀(b:Nat) (c:Array Bool) (a:Act) (w:World),wpAnyZ P ops Q S F b c a w->wpAny P .any ops Q b c a w
 | 0,_,_,_,h=>h
 | b+1,_,_,_,h=>⟨h.1,fun i d=>kG (fun e w' f=>aHt b _ e w' f.2) (h.2 i d)⟩
def LateOkZ (ops:Array Oper)(F Z:List Nat):Prop:=
 ∀listed,Closed ops listed->∀j∈F,j∈Region.ready .any ops listed->∀i,i<ops.size->i∉F->i∉Z->listed.getD i true=true
theorem aLs {x:Oper}(K:ops[i]? = some x)(r:∀(j:Nat)(o:Oper) cs b,ops[j]? = some o->o.op≠.select cs b)
  (hQ:∀c a w,Q (.panic c) (a.put x.dst v) w->Q (.panic c) a w) (hF:LateOkZ ops F Z) (R:i∉F) (T:i∉Z) :
  ∀(f:Nat) (d:Array Bool) (a:Act) (w:World),Closed ops d->
   (∀j t,ops[j]? = some t->j≠i->d.getD j true=false->(∀e∈t.after,Region.binds .any e=true->e.on≠i)->x.apart ops t=true)->
   i∈Region.ready .any ops d->YieldsIf P ops S x v a->S w->
   wpAnyZ P ops Q S F f (d.setIfInBounds i true) (a.put x.dst v) w->wpAnyZ P ops Q S F (f+1) d a w:=by
 intro f
 induction f with
 | zero=>
  intro d a w _ l p I y H;refine ⟨fun h=>(by rw[h] at p;cases p),fun j z=>?_⟩;by_cases g:j=i
  ·subst g;exact I.wpOp K y ⟨fun _ _=>y,H⟩
  have:=gO z g;rw[H.1] at this
  cases this
 | succ f ih=>
  intro d a w B l p I y H;refine ⟨fun h=>(by rw[h] at p;cases p),fun j z=>?_⟩;by_cases g:j=i
  ·subst g;exact I.wpOp K y ⟨fun _ _=>y,H⟩
  have s:j∉F:=fun s=>by
   have m:=hF d B j s z i (aU.1 K).1 R T;rw[(ej.1 p).1] at m
   cases m
  have m:=H.2 j (gO z g);obtain ⟨q,t,u,C⟩:=ej.1 z
  have A:∀e∈t.after,Region.binds .any e=true->e.on≠i:=fun e W X M=>by
   have m:=C e W X;have U:=(ej.1 p).1;rw[M] at m;rcases bo i d.size with L | L
   ·simp[L] at U m;rw[U] at m;cases m
   simp[br L] at m
  have V:=ng u (l j t u g q A) (fun cs b=>r i x cs b K) (fun cs b=>r j t cs b u) hQ I m
  have n:∀k D,ops[k]? = some D->k≠i->(d.setIfInBounds j true).getD k true=false->
    (∀e∈D.after,Region.binds .any e=true->e.on≠i)->x.apart ops D=true:=fun k D Y N E O=>by
   refine l k D Y N ?_ O
   by_cases G:j=k
   ·subst G;exact q
   rw[jB true G] at E;exact E
  refine kG (fun a' w' J=>⟨J.2.1,ih (d.setIfInBounds j true) a' w' (B.set z) n (gO p (kF g)) J.1 (J.2.1 s y) ?_⟩) V;rw[ie _ _ g];exact J.2.2
theorem aWs {b:Array Bool}{a:Act}{w:World}(d:Region.ready .any ops b=[])(h:Q .normal a w) :
  ∀c,wpAnyZ P ops Q S F c b a w
 | 0=>⟨d,h⟩
 | _+1=>⟨fun _=>h,by rw[d];simp⟩
theorem aDr {u:Oper}(M:ops[i]? = some u)(p:∀(j:Nat)(o:Oper) cs b,ops[j]? = some o->o.op≠.select cs b)
  (W:∀c a w,Q (.panic c) (a.put u.dst v) w->Q (.panic c) a w) :
  ∀(f:Nat) (d:Array Bool) (a:Act) (w:World),Closed ops d->
   (∀j s,ops[j]? = some s->j≠i->d.getD j true=false->(∀e∈s.after,Region.binds .any e=true->e.on≠i)->u.apart ops s=true)->
   i∈Region.ready .any ops d->YieldsIf P ops (fun _=>True) u v a->
   wpAnyZ P ops Q S F f (d.setIfInBounds i true) (a.put u.dst v) w->wpAnyZ P ops Q S F (f+1) d a w:=by
 intro f
 induction f with
 | zero=>
  intro d a w _ l r D H;refine ⟨fun h=>(by rw[h] at r;cases r),fun j z=>?_⟩;by_cases g:j=i
  ·subst g;exact D.wpOp M trivial ⟨fun _ h=>h,H⟩
  have:=gO z g;rw[H.1] at this
  cases this
 | succ f ih=>
  intro d a w E l r D H;refine ⟨fun h=>(by rw[h] at r;cases r),fun j z=>?_⟩;by_cases g:j=i
  ·subst g;exact D.wpOp M trivial ⟨fun _ h=>h,H⟩
  have q:=H.2 j (gO z g);obtain ⟨n,s,t,y⟩:=ej.1 z
  have x:∀e∈s.after,Region.binds .any e=true->e.on≠i:=fun e R T I=>by
   have q:=y e R T;have N:=(ej.1 r).1;rw[I] at q;rcases bo i d.size with G | G
   ·simp[G] at N q;rw[N] at q;cases q
   simp[br G] at q
  have O:=ng t (l j s t g n x) (fun cs b=>p i u cs b M) (fun cs b=>p j s cs b t) W D q
  have m:∀k A,ops[k]? = some A->k≠i->(d.setIfInBounds j true).getD k true=false->
    (∀e∈A.after,Region.binds .any e=true->e.on≠i)->u.apart ops A=true:=fun k A U J B K=>by
   refine l k A U J ?_ K
   by_cases C:j=k
   ·subst C;exact n
   rw[jB true C] at B;exact B
  refine kG (fun V w' L=>⟨L.2.1,ih (d.setIfInBounds j true) V w' (E.set z) m (gO r (kF g)) L.1 ?_⟩) O;rw[ie _ _ g];exact L.2.2
theorem aEz {C:Act->World->Prop}(n:Region.noSelect ops=true)(p:∀c a w,¬Q (.panic c) a w)(s:LateOkZ ops F Z) (ρ:List (Bool×Nat))
  (z:∀(b:Array Bool) (d:Nat) (a:Act) (w:World),planOk ops ρ b=true->ρ.length<=d->Closed ops b->S w->C a w->wpAnyZ P ops Q S F d b a w) :
  ∀(π:List (Bool×Nat)) (b:Array Bool) (d:Nat) (a:Act) (w:World),planOk ops (π++ρ) b=true->(π++ρ).length<=d->(∀x∈π,x.2∉F/\x.2∉Z)->Closed ops b->S w->
   wl P ops S C π a w->wpAnyZ P ops Q S F d b a w
 | [],b,d,a,w,hp,hf,_,hcl,hS,h=>z b d a w (by simpa using hp) (by simpa using hf) hcl hS h
 | (q,i)::r,b,d,a,w,hp,hf,hn,hcl,hS,h=>by
  obtain ⟨d,rfl⟩:∃k,d=k+1:=⟨d-1,by simp at hf;omega⟩;simp only[aV,aD,bQ] at hf;obtain ⟨t,u⟩:=hn (q,i) (by simp);have f:∀x∈r,x.2∉F/\x.2∉Z:=fun x J=>hn x (by simp[J]);simp only[wl] at h
  cases m:ops[i]? with
  | none=>simp only[m] at h
  | some o=>
   simp only[m] at h
   cases q with
   | true=>
    simp only[aV,planOk,ay] at hp;obtain ⟨⟨y,A⟩,E⟩:=hp;have e:i∈Region.ready .any ops b:=(by simpa using A);by_cases l:Region.wanted o (yielded ops a.tmps)=true
    ·rw[ao l,ao rfl] at h
     obtain ⟨v,H,I⟩:=h
     exact aLs m (dq n) (fun c a w g=>absurd g (p _ _ _)) s t u d b a w hcl (dZ m y) e (.inl ⟨l,fun w B=>H w _ _ _ _ B⟩) hS
      (aEz n p s ρ z r _ d _ w E hf f (hcl.set e) hS I)
    rw[ah l] at h
    exact aLs m (dq n) (fun c a w g=>absurd g (p _ _ _)) s t u d b a w hcl (dZ m y) e (.inr ⟨by simpa using l,rfl⟩) hS
     (aEz n p s ρ z r _ d _ w E hf f (hcl.set e) hS h)
   | false=>
    simp only[aV,planOk,ay,gF] at hp;obtain ⟨y,A⟩:=hp;refine ⟨fun G=>(by rw[y] at G;cases G),fun j D=>?_⟩;have e:=D;rw[y] at D;obtain rfl:j=i:=(by simpa using D);unfold wpOp;simp only[m];by_cases l:Region.wanted o (yielded ops a.tmps)=true
    ·rw[ao l]
     rw[ao l] at h;simp only[bA,dD] at h;exact .inl (aFr (fun K w' g=>⟨fun _ _=>g.1,aEz n p s ρ z r _ d K w' A hf f (hcl.set e) g.1 g.2⟩) (fun _ _ _ g=>g.elim) h)
    rw[ah l];rw[ah l] at h;exact ⟨fun _ h=>h,aEz n p s ρ z r _ d _ w A hf f (hcl.set e) hS h⟩
theorem aHv {C:Act->World->Prop}(j:Region.noSelect ops=true)(l:∀c a w,¬Q (.panic c) a w) (ρ:List (Bool×Nat))
  (s:∀(b:Array Bool) (d:Nat) (a:Act) (w:World),planOk ops ρ b=true->ρ.length<=d->Closed ops b->S w->C a w->wpAnyZ P ops Q S F d b a w) :
  ∀(π:List (Bool×Nat)) (b:Array Bool) (d:Nat) (a:Act) (w:World),planOk ops (π++ρ) b=true->(π++ρ).length<=d->(∀x∈π,x.1=true)->Closed ops b->S w->
   wl P ops (fun _=>True) C π a w->wpAnyZ P ops Q S F d b a w
 | [],b,d,a,w,hp,hf,_,hcl,hS,h=>s b d a w (by simpa using hp) (by simpa using hf) hcl hS h
 | (q,i)::r,b,d,a,w,hp,hf,hn,hcl,hS,h=>by
  obtain ⟨d,rfl⟩:∃k,d=k+1:=⟨d-1,by simp at hf;omega⟩;simp only[aV,aD,bQ] at hf;have t:=hn (q,i) (by simp);simp only at t;subst t;have g:∀x∈r,x.1=true:=fun x D=>hn x (by simp[D]);simp only[wl] at h
  cases f:ops[i]? with
  | none=>simp only[f] at h
  | some o=>
   simp only[f] at h;simp only[aV,planOk,ay] at hp;obtain ⟨⟨u,z⟩,y⟩:=hp;have e:i∈Region.ready .any ops b:=(by simpa using z);by_cases m:Region.wanted o (yielded ops a.tmps)=true
   ·rw[ao m] at h
    simp only[fj] at h;obtain ⟨v,A,B⟩:=h
    exact aDr f (dq j) (fun c a w n=>absurd n (l _ _ _)) d b a w hcl (dZ f u) e (.inl ⟨m,fun w p=>A w _ _ _ _ p⟩)
     (aHv j l ρ s r _ d _ w y hf g (hcl.set e) hS B)
   rw[ah m] at h
   exact aDr f (dq j) (fun c a w n=>absurd n (l _ _ _)) d b a w hcl (dZ f u) e (.inr ⟨by simpa using m,rfl⟩)
    (aHv j l ρ s r _ d _ w y hf g (hcl.set e) hS h)
theorem aEx {Qn:Act->World->Prop}(p:Region.noSelect ops=true)(s:∀c a w,¬Q (.panic c) a w)(u:∀a w,Qn a w->Q .normal a w) :
  ∀(π:List (Bool×Nat)) (d:Array Bool) (b:Nat) (a:Act) (w:World),planOk ops π d=true->π.length<=b->(∀x∈π,x.2∈F)->Closed ops d->
   wl P ops (fun _=>True) Qn π a w->wpAnyZ P ops Q S F b d a w
 | [],d,b,a,w,hp,_,_,_,h=>aWs (by simpa[planOk] using hp) (u _ _ h) b
 | (q,i)::r,d,b,a,w,hp,hf,hl,hcl,h=>by
  obtain ⟨b,rfl⟩:∃k,b=k+1:=⟨b-1,by simp at hf;omega⟩;simp only[aD,bQ] at hf;have l:=hl (q,i) (by simp);simp only at l;have f:∀x∈r,x.2∈F:=fun x H=>hl x (by simp[H]);simp only[wl] at h
  cases n:ops[i]? with
  | none=>simp only[n] at h
  | some o=>
   simp only[n] at h
   cases q with
   | true=>
    simp only[planOk,ay] at hp;obtain ⟨⟨t,y⟩,C⟩:=hp;have e:i∈Region.ready .any ops d:=(by simpa using y);by_cases g:Region.wanted o (yielded ops a.tmps)=true
    ·rw[ao g,ao rfl] at h
     obtain ⟨v,E,G⟩:=h
     exact aDr n (dq p) (fun c a w m=>absurd m (s _ _ _)) b d a w hcl (dZ n t) e (.inl ⟨g,fun w z=>E w _ _ _ _ z⟩)
      (aEx p s u r _ b _ w C hf f (hcl.set e) G)
    rw[ah g] at h
    exact aDr n (dq p) (fun c a w m=>absurd m (s _ _ _)) b d a w hcl (dZ n t) e (.inr ⟨by simpa using g,rfl⟩)
     (aEx p s u r _ b _ w C hf f (hcl.set e) h)
   | false=>
    simp only[planOk,ay,gF] at hp;obtain ⟨t,y⟩:=hp;refine ⟨fun D=>(by rw[t] at D;cases D),fun j A=>?_⟩;have e:=A;rw[t] at A;obtain rfl:j=i:=(by simpa using A);unfold wpOp;simp only[n];by_cases g:Region.wanted o (yielded ops a.tmps)=true
    ·rw[ao g]
     rw[ao g] at h;simp only[bA,dD] at h;exact .inl (aFr (fun I w' m=>⟨fun B=>absurd l B,aEx p s u r _ b I w' y hf f (hcl.set e) m.2⟩) (fun _ _ _ m=>m.elim) h)
    rw[ah g];rw[ah g] at h;exact ⟨fun B=>absurd l B,aEx p s u r _ b _ w y hf f (hcl.set e) h⟩
def floatChk (ops:Array Oper)(F Z:List Nat):Bool:=
 F.all fun f=>let m:=closB ops (List.range ops.size).reverse (2 ^ f);(List.range ops.size).all fun i=>F.contains i || Z.contains i || m.testBit i
theorem bDf {F Z:List Nat}(h:floatChk ops F Z=true):LateOkZ ops F Z:=by
 intro a e f k n i o c g;have m:=bF.1 h f k;have b:=bF.1 m i (bL.2 o);simp only[dt] at b;rcases b with (b | b) | b
 ·exact absurd (by simpa using b) c
 ·exact absurd (by simpa using b) g
 rcases aKr e n _ _ (fun t l=>by rw[cF] at l;left;exact (aP l).symm) i b with d | d
 ·exact absurd (d▸k) c
 rcases bo i a.size with j | j
 ·simpa[j] using d
 simp[br j] at d
def quiets (Z:List Nat):List (Bool×Nat):=Z.map fun i=>(true,i)
def planChkZ (ops:Array Oper) (π Z' σ ρ:List (Bool×Nat))(F Z:List Nat):Bool:=
 planChk ops (π++(Z'++(σ++ρ))) && floatChk ops F Z && (π.all fun x=>!F.contains x.2 && !Z.contains x.2) && (σ.all fun x=>!F.contains x.2 && !Z.contains x.2) && (ρ.all fun x=>F.contains x.2)
end
section
variable {P:Program} {ops:Array Oper} {S:World->Prop} {F Z:List Nat}
theorem aUb {id:Nat}{d:Exit->Act->World->Prop}{a:Act}{w:World}(S:World->Prop) (π:List (Bool×Nat))(Z:List Nat) (σ ρ:List (Bool×Nat))(F:List Nat)(hm:P.follows .mixedOrders=true)
  (q:planChkZ ops π (quiets Z) σ ρ F Z=true)
  (K:S w.drew)
  (h:∀(T:World->Prop) (M:Addr->Option Value) (O Q R U:Act->World->Prop),(∀w,S w->T w)->(∀w,T w->S w)->(∀p v,(∀w,S w->w.cell? p=some v)->M p=some v)->
   (∀a w,wl P ops (fun _=>True) Q (quiets Z) a w->O a w)->(∀a w,wq P T M R (cmp ops σ) a w->Q a w)->(∀a w,wq P (fun _=>True) (fun _=>none) U (cmp ops ρ) a w->R a w)->(∀a w,d .normal a w->U a w)->wq P T M O (cmp ops π) a w.drew) :
  (Code.region id ops true).wp P d a w:=by
 simp only[planChkZ,ay] at q;obtain ⟨⟨⟨⟨q,G⟩,W⟩,X⟩,Y⟩:=q;simp only[planChk,ay,kY] at q;obtain ⟨⟨⟨t,c2⟩,c3⟩,y⟩:=q;have V:planOk ops (π++(quiets Z++(σ++ρ))) (Array.replicate ops.size false)=true:=aCz _ 0 _ (by simp) (fun j H=>by simp[H]) (fun j _=>by simp) c3
 have B:Closed ops (Array.replicate ops.size false):=by
  intro j oj H I;have:=(aU.1 H).1;simp[this] at I
 simp only[iS,ay] at y
 have D:∀p v,(Classical.epsilon fun o:Option Value=>∀v,o=some v↔∀w,S w->w.cell? p=some v)=some v↔∀w,S w->w.cell? p=some v:=by
  intro p
  have E:∃o:Option Value,∀v,o=some v↔∀w,S w->w.cell? p=some v:=by
   by_cases f:∃v,∀w,S w->w.cell? p=some v
   ·obtain ⟨v,N⟩:=f
    refine ⟨some v,fun u=>⟨fun e=>(by cases e;exact N),fun J=>?_⟩⟩;have L:=N _ K;rw[J _ K] at L;exact L.symm
   exact ⟨none,fun u=>⟨fun e=>(by cases e),fun J=>absurd ⟨u,J⟩ f⟩⟩
  exact fG E
 have m:=bDf G
 have n:∀{l:List (Bool×Nat)},(l.all fun x=>!F.contains x.2 && !Z.contains x.2)=true->∀x∈l,x.2∉F/\x.2∉Z:=fun G x f=>by
  have:=bF.1 G x f;simpa using this
 refine it (wp_region_any hm (aHt (S:=S) (F:=F) _ _ _ _ ?_));refine aEz (C:=fun a w=>wl P ops (fun _=>True) (fun a w=>wl P ops S (fun a w=>wl P ops (fun _=>True) (d .normal) ρ a w) σ a w) (quiets Z) a w) t (fun c a w h=>h) m (quiets Z++(σ++ρ)) (fun b g a w q1 q2 r z s=>?_) π _ _ _ _ V c2 (n W) B K ?_
 ·refine aHv (C:=fun a w=>wl P ops S (fun a w=>wl P ops (fun _=>True) (d .normal) ρ a w) σ a w) t (fun c a w h=>h) (σ++ρ) (fun b g a w q1 q2 r z s=>?_) (quiets Z) _ _ _ _ q1 q2 (fun x f=>by obtain ⟨i,_,rfl⟩:=ce.1 f;rfl) r z s
  refine aEz (C:=fun a w=>wl P ops (fun _=>True) (d .normal) ρ a w) t (fun c a w h=>h) m ρ (fun b g a w q1 q2 r z s=>?_) σ _ _ _ _ q1 q2 (n X) r z s;exact aEx (Qn:=d .normal) t (fun c a w h=>h) (fun a w k=>jc k) ρ _ _ _ _ q1 q2 (fun x f=>by have:=bF.1 Y x f;simpa using this) r s
 refine aBz (M:=fun p=>Classical.epsilon fun o:Option Value=>∀v,o=some v↔∀w,S w->w.cell? p=some v) (fun p v h=>(D p v).1 h) π a w.drew y.1 ?_;refine h S _ (fun a w=>wl P ops (fun _=>True) (fun a w=>wl P ops S (fun a w=>wl P ops (fun _=>True) (d .normal) ρ a w) σ a w) (quiets Z) a w) (fun a w=>wl P ops S (fun a w=>wl P ops (fun _=>True) (d .normal) ρ a w) σ a w) (fun a w=>wl P ops (fun _=>True) (d .normal) ρ a w) (d .normal) (fun _ h=>h) (fun _ h=>h) (fun p v h=>(D p v).2 h) (fun A w' k=>?_) (fun A w' k=>?_) (fun A w' k=>?_) (fun _ _ h=>h)
 ·exact k
 ·exact aBz (M:=fun p=>Classical.epsilon fun o:Option Value=>∀v,o=some v↔∀w,S w->w.cell? p=some v) (fun p v h=>(D p v).1 h) σ A w' y.2.2.1 k
 exact aBz (M:=fun _=>none) (fun p v h=>by cases h) ρ A w' y.2.2.2 k
end
theorem bKz {P:Program}{a:Act}{w:World}{p:String}{e:Array Edge}{parts:Array (Nat×Operand)}{c:Array (Nat×Value)}{Q:Act->World->Prop}
  (f:ops[i]? = some ⟨dst,.build t parts,ty,p,e,none⟩) (h:(parts.toList.map fun p=>(p.1,a.eval p.2)).toArray=c) (j:∀w,(Instr.build t c).run P w=.ok v w) (k:Q (a.put dst v) w) :
  wl P ops (fun _=>True) Q [(true,i)] a w:=by
 simp only[wl,f,Region.wanted,fj];refine ⟨v,fun w d p e g _=>?_,k⟩;have b:(parts.map fun p=>(p.1,a.eval p.2))=c:=by rw[<-h];apply dX.1;simp
 unfold execOp;simp only[b,j,bT,cE,bI]
theorem aZt {P:Program}{Q:Act->World->Prop}{σ:List (Bool×Nat)}:∀(π:List (Bool×Nat)) (a:Act) (w:World),wl P ops S (wl P ops S Q σ) π a w->wl P ops S Q (π++σ) a w
 | [],a,w,h=>h
 | (q,i)::r,a,w,h=>by
  simp only[aV,wl] at h ⊢;split
  ·rename_i c;simp only[c] at h
  rename_i o c;simp only[c] at h;split
  ·rename_i d
   rw[ao d] at h
   cases q with
   | true=>
    simp only[fj] at h ⊢;obtain ⟨v,e,h⟩:=h;exact ⟨v,e,aZt r _ _ h⟩
   | false=>
    simp only[bA,dD] at h ⊢;exact aFr (fun a w b=>⟨b.1,aZt r _ _ b.2⟩) (fun _ _ _ b=>b) h
  rename_i d;rw[ah d] at h;exact aZt r _ _ h
theorem aTu {P:Program}{id:Nat}{k:Exit->Act->World->Prop}{a:Act}{w:World}(S:World->Prop) (π:List (Bool×Nat))(Z:List Nat)(i:Nat) (ρ:List (Bool×Nat))(F:List Nat)(t:P.follows .mixedOrders=true)
  (l:planChkZ ops π (quiets (Z++[i])) [] ρ F (Z++[i])=true) (u:S w.drew)
  (h:∀(T:World->Prop) (M:Addr->Option Value) (d b f e:Act->World->Prop),(∀w,S w->T w)->(∀w,T w->S w)->(∀p v,(∀w,S w->w.cell? p=some v)->M p=some v)->
   (∀a w,wq P (fun _=>True) (fun _=>none) b (cmp ops (quiets Z)) a w->d a w)->(∀a w,wl P ops (fun _=>True) f [(true,i)] a w->b a w)->(∀a w,wq P (fun _=>True) (fun _=>none) e (cmp ops ρ) a w->f a w)->(∀a w,k .normal a w->e a w)->wq P T M d (cmp ops π) a w.drew) :
  (Code.region id ops true).wp P k a w:=by
 have j:=l;simp only[planChkZ,planChk,ay,quiets,aM,iS] at j;refine aUb S π (Z++[i]) [] ρ F t l u fun T M d b f e m g n o q r s=>?_;refine h T M d (wl P ops (fun _=>True) b [(true,i)]) b e m g n (fun a w c=>o a w ?_) (fun a w c=>c) (fun a w c=>q a w (r a w c)) s;rw[show quiets (Z++[i])=quiets Z++[(true,i)] by simp[quiets]];refine aZt _ _ _ (aBz (M:=fun _=>none) (fun p v h=>by cases h) (quiets Z) a w ?_ c);exact j.1.1.1.1.2.2.1.1
end Go.Proofs.YtohblmepajhpaaaGreatDoor
