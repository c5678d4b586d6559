/- Texts of the walks, together:  -/
import Derived.Test.YtohblmepajhpaaaGreatDoorRows
import Derived.WalkKit
import Derived.WalkSpells
import Derived.WalkLawsBesides
import Derived.BigQuiet
import Derived.Deep.QuietTactic
import Derived.Deep.RegionHeld3
import Derived.Lib.Hide
import Derived.Lib.SlicesS
namespace Go.Proofs.YtohblmepajhpaaaGreatDoor
open Go.RowKit
def quietKind:Op->Bool
 | .move _ | .assign _ | .pick .. | .binOp .. | .unOp .. | .fieldAddr .. | .field .. | .indexAddr .. | .load .. | .extract .. | .slice .. | .convert .. | .nilCheck _=>true
 | .call { callee:=.builtin .len,.. } | .call { callee:=.builtin .cap,.. } | .call { callee:=.builtin .min,.. } | .call { callee:=.builtin .max,.. }=>true
 | _=>false
def planOk (ops:Array Oper):List (Bool×Nat)->Array Bool->Bool
 | [],listed=>(Region.ready .any ops listed).isEmpty
 | (true,i)::r,listed=>Region.free .any ops listed i && (Region.ready .any ops listed).contains i && planOk ops r (listed.setIfInBounds i true)
 | (false,i)::r,listed=>Region.ready .any ops listed == [i] && planOk ops r (listed.setIfInBounds i true)
def mkPlan (ops:Array Oper):Nat->Array Bool->List (Bool×Nat)
 | 0,_=>[]
 | n+1,listed=>
  let rs:=Region.ready .any ops listed
  match rs.find? fun i=>((ops[i]?).map fun o=>quietKind o.op).getD false && Region.free .any ops listed i with
  | some i=>(true,i)::mkPlan ops n (listed.setIfInBounds i true)
  | none=>match rs with
   | i::_=>(false,i)::mkPlan ops n (listed.setIfInBounds i true)
   | []=>[]
section
variable {P:Program} {ops:Array Oper} {S:World->Prop} {Q:Act->World->Prop}
def QYields (P:Program)(S:World->Prop)(o:Op)(ty:TypeId)(a:Act)(v:Value):Prop:=
 ∀(w:World) (d:Option Tmp) (p:String) (af:Array Edge) (g:Option (Nat×Bool)),S w->(execOp a.eval ⟨d,o,ty,p,af,g⟩).run P w=.ok (.value v) w
def wl (P:Program)(ops:Array Oper)(S:World->Prop)(Q:Act->World->Prop):List (Bool×Nat)->Act->World->Prop
 | [],a,w=>Q a w
 | (q,i)::r,a,w=>
  match ops[i]? with
  | none=>False
  | some o=>
   if Region.wanted o (yielded ops a.tmps) then
    (if q then ∃v,QYields P S o.op o.type a v/\wl P ops S Q r (a.put o.dst v) w
     else o.wp P a w (fun a' w'=>S w'/\wl P ops S Q r a' w') (fun _ _ _=>False))
   else wl P ops S Q r (a.put o.dst undef) w
theorem aEj {o:Oper}{a:Act}{w:World} {K K':Act->World->Prop} {Q Q':Exit->Act->World->Prop}(h:∀a w,K a w->K' a w)(hq:∀e a w,Q e a w->Q' e a w)
  (hh:o.wp P a w K Q):o.wp P a w K' Q':=by
 unfold Oper.wp at *
 generalize (execOp a.eval o).run P w=r at *
 cases r with
 | ok n w'=>
  cases n<;>simp only[Oper.upon] at hh ⊢<;>first
   | exact h _ _ hh
   | exact Rows.mono hh fun _ _ x=>h _ _ x
   | (refine Calls.mono hh fun e w'' x=>?_
      cases e with
      | returned u=>exact h _ _ x
      | panicked c=>exact hq _ _ _ x
      | outgrown=>obtain ⟨a,w,y⟩:=x;exact ⟨a,w,hq _ _ _ y⟩)
 | halt x w'=>
  cases x<;>simp only[Oper.upon] at hh ⊢
  case panic u=>exact hq _ _ _ hh
theorem aIj {Q':Exit->Act->World->Prop}(hs:Region.noSelect ops=true)(hQ:∀a w,Q a w->Q' .normal a w)(hP:∀c a w,¬Q' (.panic c) a w) :
  ∀(π:List (Bool×Nat)) (listed:Array Bool) (fuel:Nat) (a:Act) (w:World),planOk ops π listed=true->π.length<=fuel->S w->
   wl P ops S Q π a w->wpAnyH P .any ops Q' S fuel listed a w
 | [],listed,fuel,a,w,hp,_,_,h=>wpAnyH_done (by simpa[planOk] using hp) (hQ _ _ h) fuel
 | (q,i)::r,listed,fuel,a,w,hp,hf,hS,h=>by
  obtain ⟨fuel,rfl⟩:∃k,fuel=k+1:=⟨fuel-1,by simp at hf;omega⟩
  simp only[List.length_cons,Nat.add_le_add_iff_right] at hf
  simp only[wl] at h
  cases ho:ops[i]? with
  | none=>simp only[ho] at h
  | some o=>
   simp only[ho] at h
   cases q with
   | true=>
    simp only[planOk,Bool.and_eq_true] at hp
    obtain ⟨⟨p1,p2⟩,p3⟩:=hp
    by_cases hw:Region.wanted o (yielded ops a.tmps)=true
    ·rw[if_pos hw,if_pos rfl] at h
     obtain ⟨v,hv,hr⟩:=h
     exact wpAnyH_take ho hs p1 p2 (fun c a w hh=>absurd hh (hP _ _ _)) (.inl ⟨hw,fun w hw'=>hv w _ _ _ _ hw'⟩) hS (aIj hs hQ hP r _ fuel _ w p3 hf hS hr)
    rw[if_neg hw] at h
    exact wpAnyH_take ho hs p1 p2 (fun c a w hh=>absurd hh (hP _ _ _)) (.inr ⟨by simpa using hw,rfl⟩) hS (aIj hs hQ hP r _ fuel _ w p3 hf hS h)
   | false=>
    simp only[planOk,Bool.and_eq_true,beq_iff_eq] at hp
    obtain ⟨p1,p2⟩:=hp
    refine wpAnyH_all p1 (by simp) fun j hj=>?_
    obtain rfl:j=i:=by simpa using hj
    unfold wpOp
    simp only[ho]
    by_cases hw:Region.wanted o (yielded ops a.tmps)=true
    ·rw[if_pos hw]
     rw[if_pos hw] at h
     simp only[Bool.false_eq_true,if_false] at h
     exact .inl (aEj (fun a' w' hh=>⟨hh.1,aIj hs hQ hP r _ fuel a' w' p2 hf hh.1 hh.2⟩) (fun _ _ _ hh=>hh.elim) h)
    rw[if_neg hw]
    rw[if_neg hw] at h
    exact ⟨hS,aIj hs hQ hP r _ fuel _ w p2 hf hS h⟩
theorem aQo {id:Nat} {Q':Exit->Act->World->Prop}{a:Act}{w:World}(S:World->Prop) (π:List (Bool×Nat))(hm:P.follows .mixedOrders=true)
  (hc:(Region.noSelect ops && decide (π.length<=ops.size) && planOk ops π (Array.replicate ops.size false))=true) (hS:S w.drew)
  (h:wl P ops S (Q' .normal) π a w.drew):(Code.region id ops true).wp P Q' a w:=by
 simp only[Bool.and_eq_true,decide_eq_true_eq] at hc
 refine wp_region_noPanic (wp_region_held (S:=S) hm ?_)
 exact aIj hc.1.1 (fun _ _ h=>NoPanic.normal h) (fun c a w h=>h) π _ _ _ _ hc.2 hc.1.2 hS h
end
inductive Tag {α:Type} (a:α):Type | mk
def inI64 (x:Int):Prop:=-9223372036854775808<=x/\x<=9223372036854775807
def fo (P:Program)(t:TypeId)(i:Nat):Option Nat:=
 match P.underlying t with
 | some (.struct fs)=>(fs[i]?).bind fun f=>if ((P.info? f.type).map (·.size)).getD 0=0 then none else some f.offset
 | _=>none
def es (P:Program)(t:TypeId):Option Nat:=
 match P.underlying t with
 | some (.slice e)=>(P.info? e).map (·.size)
 | _=>none
def ea (P:Program)(t:TypeId):Option (Nat×Nat):=
 match P.underlying t with
 | some (.array n e)=>(P.info? e).map (n,·.size)
 | _=>none
def lz (P:Program)(t:TypeId):Option Nat:=
 match P.underlying t with
 | some (.struct _) | some (.array _ _)=>(P.info? t).map (·.size+1)
 | some _=>some 0
 | none=>none
def sl:List Value->Nat->Value
 | [],_=>undef
 | v::_,0=>v
 | _::l,n+1=>sl l n
theorem bKa (l:List Value)(n:Nat):sl l n=l.toArray.getD n undef:=by
 induction l generalizing n with
 | nil=>simp[sl]
 | cons v l ih=>cases n with
  | zero=>simp[sl]
  | succ n=>simp only[sl,ih];simp
theorem bJt (l:List Value)(d:List Deferred)(t:Nat):Act.eval ⟨l.toArray,d⟩ (.tmp t)=sl l t:=(bKa l t).symm
def arith (k:IntKind)(x:Int)(K:Value->Prop):Prop:=
 match k with
 | .i64=>inI64 x/\K (.int .i64 x)
 | k=>K (.int k (k.wrap x))
def binq (op:BinOp)(x y:Value)(K:Value->Prop):Prop:=
 match op,x,y with
 | .add,.int k m,.int k' n=>k=k'/\arith k (m+n) K
 | .sub,.int k m,.int k' n=>k=k'/\arith k (m-n) K
 | .mul,.int k m,.int k' n=>k=k'/\arith k (m*n) K
 | .eql,.int k m,.int k' n=>k=k'/\K (.bool (decide (m=n)))
 | .neq,.int k m,.int k' n=>k=k'/\K (.bool (!decide (m=n)))
 | .lss,.int k m,.int k' n=>k=k'/\K (.bool (decide (m<n)))
 | .leq,.int k m,.int k' n=>k=k'/\K (.bool (decide (m<=n)))
 | .gtr,.int k m,.int k' n=>k=k'/\K (.bool (decide (n<m)))
 | .geq,.int k m,.int k' n=>k=k'/\K (.bool (decide (n<=m)))
 | .eql,.string s,.string t=>K (.bool (decide (s=t)))
 | .neq,.string s,.string t=>K (.bool (!decide (s=t)))
 | .add,.string s,.string t=>(((s.size+t.size:Nat):Int)<=9223372036854775807)/\K (.string (s++t))
 | .lss,.string s,.string t=>K (.bool (Op.bytesLess s.toList t.toList))
 | .geq,.string s,.string t=>K (.bool (!Op.bytesLess s.toList t.toList))
 | .leq,.string s,.string t=>K (.bool (Op.bytesLess s.toList t.toList || decide (s=t)))
 | .gtr,.string s,.string t=>K (.bool (!(Op.bytesLess s.toList t.toList || decide (s=t))))
 | .rem,.int k m,.int k' n=>k=k'/\(0<=m/\0<n)/\K (.int k (m % n))
 | .quo,.int k m,.int k' n=>k=k'/\(0<=m/\0<n)/\arith k (m / n) K
 | _,_,_=>False
def unq (op:UnOp)(x:Value)(K:Value->Prop):Prop:=
 match op,x with
 | .not,.bool b=>K (.bool (!b))
 | .neg,.int k n=>arith k (0-n) K
 | _,_=>False
def pkq (c x y:Value)(K:Value->Prop):Prop:=
 match c with
 | .bool b=>K (bif b then x else y)
 | _=>False
def faq (o:Option Nat)(x:Value)(K:Value->Prop):Prop:=
 match o,x with
 | some n,.pointer (some ⟨b,off,none⟩)=>K (.pointer (some ⟨b,off+n,none⟩))
 | _,_=>False
def rowAt (A:Option Addr)(K:Nat->Nat->Prop)(_:Tag K):Prop:=∃b o,A=some ⟨b,o,none⟩/\K b o
theorem aYq (b o:Nat)(K:Nat->Nat->Prop)(t:Tag K):rowAt (some ⟨b,o,none⟩) K t=K b o:=by
 apply propext
 constructor
 ·rintro ⟨b',o',h,hk⟩;cases h;exact hk
 exact fun h=>⟨b,o,rfl,h⟩
def iaq (s:Option Nat)(ar:Option (Nat×Nat))(x i:Value)(K:Value->Prop):Prop:=
 match x,i with
 | .slice A n _,.int _ i=>match s with
  | some z=>(0<=i/\i<n)/\rowAt A (fun b o=>K (.pointer (some ⟨b,o+i.toNat*z,none⟩))) .mk
  | none=>False
 | .pointer (some ⟨b,o,none⟩),.int _ i=>match ar with
  | some (n,z)=>(0<=i/\i<n)/\K (.pointer (some ⟨b,o+i.toNat*z,none⟩))
  | none=>False
 | _,_=>False
def ldcs (M:Addr->Option Value)(b o:Nat)(K:Value->Prop):Nat->Nat->List Value->Prop
 | 0,_,l=>K (.agg l.reverse.toArray)
 | n+1,j,l=>match M ⟨b,o+j,none⟩ with
  | some v=>ldcs M b o K n (j+1) (v::l)
  | none=>False
def ld1 (m:Option Value)(K:Value->Prop)(_:Tag K):Prop:=
 match m with
 | some v=>K v
 | none=>False
def ldq (M:Addr->Option Value)(z:Option Nat)(x:Value)(K:Value->Prop):Prop:=
 match z,x with
 | some 0,.pointer (some ⟨b,o,none⟩)=>ld1 (M ⟨b,o,none⟩) K .mk
 | some (n+1),.pointer (some ⟨b,o,none⟩)=>ldcs M b o K n 0 []
 | _,_=>False
def lenq (st:Bool)(z:Option Nat)(x:Value)(K:Value->Prop):Prop:=
 match st,z,x with
 | false,some _,.slice _ n _=>K (.int .i64 n)
 | true,none,.string s=>K (.int .i64 s.size)
 | _,_,_=>False
def capq (x:Value)(K:Value->Prop):Prop:=
 match x with
 | .slice _ _ c=>K (.int .i64 c)
 | _=>False
def minq (x y:Value)(K:Value->Prop):Prop:=
 match x,y with
 | .int k m,.int k' n=>k=k'/\K (.int k (min m n))
 | _,_=>False
def maxq (x y:Value)(K:Value->Prop):Prop:=
 match x,y with
 | .int k m,.int k' n=>k=k'/\K (.int k (max m n))
 | _,_=>False
def isStr (P:Program)(t:TypeId):Bool:=match P.underlying t with | some .string=>true | _=>false
def slq (st:Bool)(z:Option Nat)(x:Value)(lo hi:Option Value)(K:Value->Prop):Prop:=
 match st,z,x,lo,hi with
 | false,some z,.slice A _ c,some (.int _ l),some (.int _ h)=>(0<=l/\l<=h/\h<=c)/\K (sliced A l.toNat h.toNat c z)
 | false,some z,.slice A n c,some (.int _ l),none=>(0<=l/\l<=n)/\K (sliced A l.toNat n c z)
 | false,some z,.slice A _ c,none,some (.int _ h)=>(0<=h/\h<=c)/\K (sliced A 0 h.toNat c z)
 | true,none,.string s,some (.int _ l),some (.int _ h)=>(0<=l/\l<=h/\h<=s.size)/\K (.string (s.extract l.toNat h.toNat))
 | true,none,.string s,some (.int _ l),none=>(0<=l/\l<=s.size)/\K (.string (s.extract l.toNat s.size))
 | true,none,.string s,none,some (.int _ h)=>(0<=h/\h<=s.size)/\K (.string (s.extract 0 h.toNat))
 | _,_,_,_,_=>False
def exq (x:Value)(i:Nat)(K:Value->Prop):Prop:=
 match x with
 | .tuple vs=>∃v,vs[i]? = some v/\K v
 | _=>False
def cvq (u:Bool)(k:Option IntKind)(x:Value)(K:Value->Prop):Prop:=
 match u,k,x with
 | true,some k',.int _ n=>K (.int k' (k'.wrap n))
 | _,_,_=>False
def ikOf (P:Program)(t:TypeId):Option IntKind:=
 match P.underlying t with
 | some (.int k)=>some k
 | _=>none
def cpq (z:Option Nat)(x:Value)(K:Value->Prop):Prop:=
 match z,x with
 | some _,.slice _ _ c=>K (.int .i64 c)
 | _,_=>False
def ncq (x:Value)(K:Value->Prop):Prop:=
 match x with
 | .pointer (some p)=>K (.pointer (some p))
 | _=>False
def calq (P:Program)(c:Callee)(xs:List Operand)(ts:List TypeId)(ev:Operand->Value)(K:Value->Prop):Prop:=
 match c,xs,ts with
 | .builtin .len,[x],[t]=>lenq (isStr P t) (es P t) (ev x) K
 | .builtin .cap,[x],[t]=>cpq (es P t) (ev x) K
 | .builtin .min,[x,y],[_,_]=>minq (ev x) (ev y) K
 | .builtin .max,[x,y],[_,_]=>maxq (ev x) (ev y) K
 | _,_,_=>False
def opq (P:Program)(M:Addr->Option Value)(op:Op)(ev:Operand->Value)(K:Value->Prop):Prop:=
 match op with
 | .move x=>K (ev x)
 | .assign x=>K (ev x)
 | .pick c x y=>pkq (ev c) (ev x) (ev y) K
 | .binOp op _ x y _=>binq op (ev x) (ev y) K
 | .unOp op _ x=>unq op (ev x) K
 | .fieldAddr t x i=>faq (fo P t i) (ev x) K
 | .indexAddr t x i=>iaq (es P t) (ea P t) (ev x) (ev i) K
 | .load t x=>ldq M (lz P t) (ev x) K
 | .extract x i=>exq (ev x) i K
 | .slice t x lo hi none=>slq (isStr P t) (es P t) (ev x) (lo.map ev) (hi.map ev) K
 | .convert s d x=>cvq (P.underlying s).isSome (ikOf P d) (ev x) K
 | .call c=>calq P c.callee c.args.toList c.argTypes.toList ev K
 | .nilCheck x=>ncq (ev x) K
 | _=>False
section
variable {P:Program} {S:World->Prop} {M:Addr->Option Value} {a:Act} {ty:TypeId}
theorem bFv {x:Int}(h:inI64 x):IntKind.i64.wrap x=x:=IntWalk.i64_in x ⟨h.1,by have:=h.2;omega⟩
theorem aGv {k:IntKind}{x:Int}{K:Value->Prop}(h:arith k x K):K (.int k (k.wrap x)):=by
 cases k<;>simp only[arith] at h
 case i64=>rw[bFv h.1];exact h.2
 all_goals exact h
theorem bIy (s t:ByteArray):(s.toList == t.toList)=decide (s=t):=by
 by_cases h:s=t
 ·subst h;simp
 rw[decide_eq_false h];exact (Lib.bytes_beq_false_iff s t).2 h
theorem bJf (m n:Int):(m == n)=decide (m=n):=by by_cases h:m=n<;>simp[h]
theorem bJz {op:BinOp}{t yt:TypeId}{x y:Operand}{K:Value->Prop}(h:binq op (a.eval x) (a.eval y) K):∃v,QYields P S (.binOp op t x y yt) ty a v/\K v:=by
 have key:∀X Y,binq op X Y K->∃v,(∀w,(eqGuard op t x y X Y).run P w=.ok () w/\(binOp op t X Y).run P w=.ok v w)/\K v:=by
  intro X Y h
  unfold binq at h
  split at h
  case h_19=>exact h.elim
  case h_18=>
   obtain ⟨rfl,⟨h0,h1⟩,h⟩:=h
   exact ⟨_,fun w=>⟨by simp[go_sem],by rw[binOp_quo,Op.intDiv,if_neg (by omega),Int.tdiv_eq_ediv_of_nonneg h0];rfl⟩,aGv h⟩
  case h_17=>
   obtain ⟨rfl,⟨h0,h1⟩,h⟩:=h
   exact ⟨_,fun w=>⟨by simp[go_sem],by rw[binOp_rem,Op.intDiv,if_neg (by omega),Int.tmod_eq_emod_of_nonneg h0];rfl⟩,h⟩
  case h_12=>
   obtain ⟨h0,h⟩:=h
   exact ⟨_,fun w=>⟨by simp[go_sem],by simp[binOp,Op.stringOp,IntKind.max,IntKind.signed,IntKind.bits];simpa using h0⟩,h⟩
  all_goals first
   | (obtain ⟨rfl,h⟩:=h
      exact ⟨_,fun w=>⟨by simp[go_sem],by first | (rw[binOp_add];rfl) | (rw[binOp_sub];rfl) | (rw[binOp_mul];rfl)⟩,aGv h⟩)
   | (obtain ⟨rfl,h⟩:=h
      exact ⟨_,fun w=>⟨by simp[go_sem],by simp[go_sem,bne,<-bJf]⟩,h⟩)
   | (exact ⟨_,fun w=>⟨by simp[go_sem],by simp[binOp,Op.stringOp,<-bIy]⟩,h⟩)
 obtain ⟨v,h1,h2⟩:=key _ _ h
 exact ⟨v,fun w d p af g _=>by simp[execOp,h1 w],h2⟩
theorem q_un {op:UnOp}{t:TypeId}{x:Operand}{K:Value->Prop}(h:unq op (a.eval x) K):∃v,QYields P S (.unOp op t x) ty a v/\K v:=by
 have key:∀X,unq op X K->∃v,(∀w,(Op.unary op X).run P w=.ok v w)/\K v:=by
  intro X h
  unfold unq at h
  split at h
  ·exact ⟨_,fun w=>rfl,h⟩
  ·exact ⟨_,fun w=>rfl,aGv h⟩
  exact h.elim
 obtain ⟨v,h1,h2⟩:=key _ h
 exact ⟨v,fun w d p af g _=>by simp[execOp,h1 w],h2⟩
theorem bJq {c x y:Operand}{K:Value->Prop}(h:pkq (a.eval c) (a.eval x) (a.eval y) K):∃v,QYields P S (.pick c x y) ty a v/\K v:=by
 unfold pkq at h
 split at h
 ·rename_i b hb
  refine ⟨_,fun w d p af g _=>?_,h⟩
  simp[execOp,hb,asBool]
 exact h.elim
theorem q_fa {t:TypeId}{x:Operand}{i:Nat}{K:Value->Prop}(h:faq (fo P t i) (a.eval x) K):∃v,QYields P S (.fieldAddr t x i) ty a v/\K v:=by
 unfold faq at h
 split at h
 ·rename_i n b off hn hx
  refine ⟨_,fun w d p af g _=>?_,h⟩
  unfold fo at hn
  split at hn
  ·rename_i fs hu
   obtain ⟨f,hf,h2⟩:=Option.bind_eq_some_iff.1 hn
   split at h2
   ·cases h2
   rename_i hz
   cases h2
   cases hi:P.info? f.type with
   | none=>simp[hi] at hz
   | some inf=>
    have hz':¬inf.size=0:=by simpa[hi] using hz
    have hadd:(⟨b,off,none⟩:Addr).add f.offset=⟨b,off+f.offset,none⟩:=by unfold Addr.add;split<;>simp_all
    simp[execOp,hx,Instr.fieldAt,run_underlying hu,hf,Instr.sureAddr,fieldPlace,sizeOf,typeInfo,hi,hz',hadd]
  cases hn
 exact h.elim
theorem q_ia {t:TypeId}{x i:Operand}{K:Value->Prop}(h:iaq (es P t) (ea P t) (a.eval x) (a.eval i) K):∃v,QYields P S (.indexAddr t x i) ty a v/\K v:=by
 unfold iaq at h
 split at h
 ·rename_i A n c k ix hx hi
  split at h
  ·rename_i z hz
   obtain ⟨⟨h0,h1⟩,b,o,rfl,hk⟩:=h
   refine ⟨_,fun w d p af g _=>?_,hk⟩
   unfold es at hz
   split at hz
   ·rename_i e hu
    obtain ⟨inf,hinf,rfl⟩:=Option.map_eq_some_iff.1 hz
    have hadd:∀m,(⟨b,o,none⟩:Addr).add m=⟨b,o+m,none⟩:=fun m=>by unfold Addr.add;split<;>simp_all
    simp[execOp,hx,hi,Instr.indexAt,run_underlying hu,asIntOf,h0,h1,sizeOf,typeInfo,hinf,hadd]
   cases hz
  exact h.elim
 ·rename_i b o k ix hx hi
  split at h
  ·rename_i n z hz
   obtain ⟨⟨h0,h1⟩,hk⟩:=h
   refine ⟨_,fun w d p af g _=>?_,hk⟩
   unfold ea at hz
   split at hz
   ·rename_i m e hu
    obtain ⟨inf,hinf,hq⟩:=Option.map_eq_some_iff.1 hz
    cases hq
    have hadd:∀m,(⟨b,o,none⟩:Addr).add m=⟨b,o+m,none⟩:=fun m=>by unfold Addr.add;split<;>simp_all
    simp[execOp,hx,hi,Instr.indexAt,run_underlying hu,asIntOf,h0,h1,sizeOf,typeInfo,hinf,hadd,Instr.sureAddr]
   cases hz
  exact h.elim
 exact h.elim
theorem aSv {b o:Nat}{K:Value->Prop}:∀(n j:Nat) (l:List Value),ldcs M b o K n j l->∃vs:List Value,vs.length=n/\(∀i v,vs[i]? = some v->M ⟨b,o+(j+i),none⟩=some v)/\K (.agg (l.reverse++vs).toArray)
 | 0,j,l,h=>⟨[],rfl,fun i v hv=>by simp at hv,by simpa[ldcs] using h⟩
 | n+1,j,l,h=>by
  unfold ldcs at h
  split at h
  ·rename_i v hv
   obtain ⟨vs,h1,h2,h3⟩:=aSv n (j+1) (v::l) h
   refine ⟨v::vs,by simp[h1],fun i u hu=>?_,by simpa using h3⟩
   cases i with
   | zero=>simp at hu;subst hu;exact hv
   | succ i=>have:=h2 i u (by simpa using hu);rw[<-this];congr 2;omega
  exact h.elim
theorem q_ld (hM:∀p v,M p=some v->∀w,S w->w.cell? p=some v){t:TypeId}{x:Operand}{K:Value->Prop}(h:ldq M (lz P t) (a.eval x) K):∃v,QYields P S (.load t x) ty a v/\K v:=by
 unfold ldq at h
 split at h
 ·rename_i b o hz hx
  unfold ld1 at h
  split at h
  ·rename_i v hv
   refine ⟨v,fun w d p af g hS=>?_,h⟩
   have hc:=hM _ _ hv w hS
   have hagg:(isAgg t).run P w=.ok false w:=by
    unfold lz at hz
    unfold isAgg
    split at hz
    ·obtain ⟨i,_,hi⟩:=Option.map_eq_some_iff.1 hz;omega
    ·obtain ⟨i,_,hi⟩:=Option.map_eq_some_iff.1 hz;omega
    ·rename_i d h1 h2 hu
     rw[Sem.run_bind,run_underlying hu w]
     cases d<;>simp_all [Result.andThen]
    cases hz
   simp[execOp,hx,Instr.loadAt,Instr.sureAddr,loadVar,hagg,hc]
  exact h.elim
 ·rename_i n b o hz hx
  obtain ⟨vs,hl,hc,hk⟩:=aSv n 0 [] h
  refine ⟨_,fun w d p af g hS=>?_,hk⟩
  have hcells:=run_loadCells_list (P:=P) w ⟨b,o,none⟩ vs (fun j v hv=>by
   have hadd:(⟨b,o,none⟩:Addr).add j=⟨b,o+(0+j),none⟩:=by unfold Addr.add;split<;>simp_all
   rw[hadd]
   exact hM _ _ (hc j v hv) w hS)
  unfold lz at hz
  have hagg:(isAgg t).run P w=.ok true w/\(P.info? t).map (·.size)=some n:=by
   unfold isAgg
   split at hz
   ·rename_i hu
    obtain ⟨i,hi,he⟩:=Option.map_eq_some_iff.1 hz
    exact ⟨by rw[Sem.run_bind,run_underlying hu w];rfl,by simp[hi];omega⟩
   ·rename_i hu
    obtain ⟨i,hi,he⟩:=Option.map_eq_some_iff.1 hz
    exact ⟨by rw[Sem.run_bind,run_underlying hu w];rfl,by simp[hi];omega⟩
   ·cases hz
   cases hz
  obtain ⟨inf,hinf,hsz⟩:=Option.map_eq_some_iff.1 hagg.2
  rw[hl] at hcells
  simp[execOp,hx,Instr.loadAt,Instr.sureAddr,loadVar,hagg.1,sizeOf,typeInfo,hinf,hsz,hcells]
 exact h.elim
theorem q_ex {x:Operand}{i:Nat}{K:Value->Prop}(h:exq (a.eval x) i K):∃v,QYields P S (.extract x i) ty a v/\K v:=by
 unfold exq at h
 split at h
 ·rename_i vs hx
  obtain ⟨v,hv,hk⟩:=h
  exact ⟨v,fun w d p af g _=>by simp[execOp,hx,Instr.extract,hv],hk⟩
 exact h.elim
theorem bKc {t:TypeId}{x:Operand}{K:Value->Prop}(h:lenq (isStr P t) (es P t) (a.eval x) K):∃v,QYields P S (.call ⟨.builtin .len,#[x],#[t]⟩) ty a v/\K v:=by
 unfold lenq at h
 split at h
 ·rename_i z A n c h0 hz hx
  refine ⟨_,fun w d p af g _=>?_,h⟩
  unfold es at hz
  split at hz
  ·rename_i e hu
   simp[execOp,resolve,invoke,builtin,hx,Builtin.len_,run_underlying hu,goInt]
  cases hz
 ·rename_i s h0 hz hx
  refine ⟨_,fun w d p af g _=>?_,h⟩
  unfold isStr at h0
  split at h0
  ·rename_i hu
   simp[execOp,resolve,invoke,builtin,hx,Builtin.len_,run_underlying hu,goInt]
  cases h0
 exact h.elim
theorem q_nc {x:Operand}{K:Value->Prop}(h:ncq (a.eval x) K):∃v,QYields P S (.nilCheck x) ty a v/\K v:=by
 unfold ncq at h
 split at h
 ·rename_i q hx
  exact ⟨_,fun w d p af g _=>by simp[execOp,hx],h⟩
 exact h.elim
theorem bJx {t:TypeId}{x:Operand}{K:Value->Prop}(h:cpq (es P t) (a.eval x) K):∃v,QYields P S (.call ⟨.builtin .cap,#[x],#[t]⟩) ty a v/\K v:=by
 unfold cpq at h
 split at h
 ·rename_i z A n c hz hx
  refine ⟨_,fun w d p af g _=>?_,h⟩
  unfold es at hz
  split at hz
  ·rename_i e hu
   simp[execOp,resolve,invoke,builtin,hx,Builtin.cap_,run_underlying hu,goInt]
  cases hz
 exact h.elim
theorem q_cv {s d:TypeId}{x:Operand}{K:Value->Prop}(h:cvq (P.underlying s).isSome (ikOf P d) (a.eval x) K):∃v,QYields P S (.convert s d x) ty a v/\K v:=by
 unfold cvq at h
 split at h
 ·rename_i k' k n h0 hk hx
  refine ⟨_,fun w d p af g _=>?_,h⟩
  unfold ikOf at hk
  split at hk
  ·rename_i kk hu
   cases hk
   obtain ⟨ds,hs⟩:=Option.isSome_iff_exists.mp h0
   simp[execOp,hx,convert,run_underlying hs,run_underlying hu,Conv.intToInt]
  cases hk
 exact h.elim
theorem q_sl {t:TypeId}{x:Operand}{lo hi:Option Operand}{K:Value->Prop}(h:slq (isStr P t) (es P t) (a.eval x) (lo.map a.eval) (hi.map a.eval) K) :
  ∃v,QYields P S (.slice t x lo hi none) ty a v/\K v:=by
 have key:∀X L H,slq (isStr P t) (es P t) X L H K->∃v,(∀w,(Instr.sliceAt t X L H none).run P w=.ok v w)/\K v:=by
  intro X L H h
  have hsl:∀z,es P t=some z->P.underlying t=some (.slice (P.elem t))/\∀w,(sizeOf (P.elem t)).run P w=.ok z w:=by
   intro z hz
   unfold es at hz
   split at hz
   ·rename_i e hu
    have he:P.elem t=e:=by simp[Program.elem,hu]
    obtain ⟨i,hi,h2⟩:=Option.map_eq_some_iff.1 hz
    exact ⟨by rw[he,hu],fun w=>by simp[he,sizeOf,typeInfo,hi,h2]⟩
   cases hz
  have hst:isStr P t=true->P.underlying t=some .string:=by
   intro h0
   unfold isStr at h0
   split at h0
   ·rename_i hu;exact hu
   cases h0
  unfold slq at h
  split at h
  ·rename_i z A n c k l k' hh h0 hz
   obtain ⟨hu,hs⟩:=hsl z hz
   exact ⟨_,fun w=>by rw[run_sliceAt_slice (w:=w) t _ _ _ _ hu,run_slice_lh (w:=w) t A n c hu k k' l hh h.1.1 h.1.2.1 h.1.2.2,hs];rfl,h.2⟩
  ·rename_i z A n c k l h0 hz
   obtain ⟨hu,hs⟩:=hsl z hz
   exact ⟨_,fun w=>by rw[run_sliceAt_slice (w:=w) t _ _ _ _ hu,run_slice_l (w:=w) t A n c hu k l h.1.1 h.1.2,hs];rfl,h.2⟩
  ·rename_i z A n c k' hh h0 hz
   obtain ⟨hu,hs⟩:=hsl z hz
   exact ⟨_,fun w=>by rw[run_sliceAt_slice (w:=w) t _ _ _ _ hu,run_slice_h (w:=w) t A n c hu k' hh h.1.1 h.1.2,hs];rfl,h.2⟩
  ·rename_i s k l k' hh h0 hz
   have hu:=hst h0
   exact ⟨_,fun w=>by rw[run_sliceAt_string (w:=w) t _ _ _ _ hu,run_slice_string (w:=w) t s k k' l hh hu h.1.1 h.1.2.1 h.1.2.2],h.2⟩
  ·rename_i s k l h0 hz
   have hu:=hst h0
   exact ⟨_,fun w=>by rw[run_sliceAt_string (w:=w) t _ _ _ _ hu,run_slice_string_l (w:=w) t s hu k l h.1.1 h.1.2],h.2⟩
  ·rename_i s k hh h0 hz
   have hu:=hst h0
   exact ⟨_,fun w=>by rw[run_sliceAt_string (w:=w) t _ _ _ _ hu,run_slice_string_h (w:=w) t s hu k hh h.1.1 h.1.2],h.2⟩
  exact h.elim
 obtain ⟨v,h1,h2⟩:=key _ _ _ h
 exact ⟨v,fun w d p af g _=>by simp[execOp,h1 w],h2⟩
theorem bKb {t t':TypeId}{x y:Operand}{K:Value->Prop}(h:minq (a.eval x) (a.eval y) K):∃v,QYields P S (.call ⟨.builtin .min,#[x,y],#[t,t']⟩) ty a v/\K v:=by
 unfold minq at h
 split at h
 ·rename_i k m k' n hx hy
  obtain ⟨rfl,h⟩:=h
  refine ⟨_,fun w d p af g _=>?_,h⟩
  rw[show min m n=(if n<m then n else m) from by rw[Int.min_def];split<;>split<;>omega]
  simp[execOp,resolve,invoke,builtin,hx,hy,run_min_int2]
 exact h.elim
theorem bJy {t t':TypeId}{x y:Operand}{K:Value->Prop}(h:maxq (a.eval x) (a.eval y) K):∃v,QYields P S (.call ⟨.builtin .max,#[x,y],#[t,t']⟩) ty a v/\K v:=by
 unfold maxq at h
 split at h
 ·rename_i k m k' n hx hy
  obtain ⟨rfl,h⟩:=h
  refine ⟨_,fun w d p af g _=>?_,h⟩
  rw[show max m n=(if n > m then n else m) from by rw[Int.max_def];split<;>split<;>omega]
  simp[execOp,resolve,invoke,builtin,hx,hy,run_max_int2]
 exact h.elim
theorem bJk {c:Call}{K:Value->Prop}(h:calq P c.callee c.args.toList c.argTypes.toList a.eval K):∃v,QYields P S (.call c) ty a v/\K v:=by
 obtain ⟨ca,⟨xs⟩,⟨ts⟩⟩:=c
 unfold calq at h
 dsimp only at h
 split at h
 ·exact bKc h
 ·exact bJx h
 ·exact bKb h
 ·exact bJy h
 exact h.elim
theorem aNb (hM:∀p v,M p=some v->∀w,S w->w.cell? p=some v){op:Op}{K:Value->Prop}(h:opq P M op a.eval K):∃v,QYields P S op ty a v/\K v:=by
 unfold opq at h
 split at h
 ·exact ⟨_,fun w d p af g _=>by simp[execOp],h⟩
 ·exact ⟨_,fun w d p af g _=>by simp[execOp],h⟩
 ·exact bJq h
 ·exact bJz h
 ·exact q_un h
 ·exact q_fa h
 ·exact q_ia h
 ·exact q_ld hM h
 ·exact q_ex h
 ·exact q_sl h
 ·exact q_cv h
 ·exact bJk h
 ·exact q_nc h
 exact h.elim
end
structure QOp where
 q:Bool
 dst:Option Tmp
 op:Op
 type:TypeId
 g:Option (Tmp×Bool)
def gOf (ops:Array Oper):Option (Nat×Bool)->Option (Tmp×Bool)
 | none=>none
 | some (j,b)=>match ((ops.toList[j]?).bind (·.dst):Option Tmp) with
  | some t=>some (t,b)
  | none=>none
def cmp1 (ops:Array Oper)(q:Bool)(i:Nat):QOp:=
 match ops.toList[i]? with
 | some o=>⟨q,o.dst,o.op,o.type,gOf ops o.guard⟩
 | none=>⟨true,none,.panic (.const undef),0,none⟩
def cmp (ops:Array Oper):List (Bool×Nat)->List QOp
 | []=>[]
 | (q,i)::r=>cmp1 ops q i::cmp ops r
def gsym (c:Bool)(A B:Prop):Prop:=(c=true->A)/\(c=false->B)
def gsel (c b:Bool)(run skip:Bool->Prop):Prop:=(c=b->run c)/\(c≠b->skip c)
def gl (c b:Bool)(run skip:Bool->Prop):Prop:=gsel c b run skip
def gq (v:Value)(b:Bool)(run skip:Bool->Prop)(no:Prop):Prop:=
 match v with
 | .bool c=>gsel c b run skip
 | _=>no
def effq (P:Program)(S:World->Prop)(x:QOp)(a:Act)(w:World)(K:Act->World->Prop):Prop:=
 ∀(p:String) (af:Array Edge) (g:Option (Nat×Bool)),Oper.wp P ⟨x.dst,x.op,x.type,p,af,g⟩ a w (fun a' w'=>S w'/\K a' w') (fun _ _ _=>False)
def wq (P:Program)(S:World->Prop)(M:Addr->Option Value)(Q:Act->World->Prop):List QOp->Act->World->Prop
 | [],a,w=>Q a w
 | ⟨q,d,o,ty,none⟩::r,a,w=>
  if q=true then opq P M o a.eval (fun v=>wq P S M Q r (a.put d v) w) else effq P S ⟨q,d,o,ty,none⟩ a w (wq P S M Q r)
 | ⟨q,d,o,ty,some (t,b)⟩::r,a,w=>
  gq (a.eval (.tmp t)) b
   (fun c=>if q=true then opq P M o (a.put (some t) (.bool c)).eval (fun v=>wq P S M Q r ((a.put (some t) (.bool c)).put d v) w)
    else effq P S ⟨q,d,o,ty,none⟩ (a.put (some t) (.bool c)) w (wq P S M Q r))
   (fun c=>wq P S M Q r ((a.put (some t) (.bool c)).put d undef) w)
   (wq P S M Q r (a.put d undef) w)
theorem bDs {l:Array Value}{t:Nat}{c:Bool}:l.getD t undef=.bool c↔l[t]? = some (.bool c):=by
 rw[Array.getD_eq_getD_getElem?]
 cases h:l[t]? with
 | none=>simp[undef]
 | some v=>simp
theorem bGb {a:Act}{t:Nat}{c:Bool}(h:a.eval (.tmp t)=.bool c):a.put (some t) (.bool c)=a:=by
 obtain ⟨⟨l⟩,d⟩:=a
 simp only[Act.eval,Act.put] at *
 congr 1
 have hlt:t<l.length:=by
  rcases Nat.lt_or_ge t l.length with h1 | h1
  ·exact h1
  simp[h1,undef] at h
 simp[hlt] at h
 simp only[List.setIfInBounds_toArray]
 congr 1
 apply List.ext_getElem?
 intro i
 rw[List.getElem?_set]
 split
 ·rename_i he;subst he;simp[hlt,h]
 rfl
section
variable {P:Program} {S:World->Prop} {M:Addr->Option Value} {Q:Act->World->Prop} {ops:Array Oper}
theorem aBl (hM:∀p v,M p=some v->∀w,S w->w.cell? p=some v):∀(π:List (Bool×Nat)) (a:Act) (w:World),
  (π.all fun x=>(ops[x.2]?).isSome && (match (ops[x.2]?).bind (·.guard) with | some (j,_)=>((ops[j]?).bind (·.dst)).isSome | none=>true))=true->
  wq P S M Q (cmp ops π) a w->wl P ops S Q π a w
 | [],a,w,_,h=>by simpa[cmp,wq,wl] using h
 | (q,i)::r,a,w,hp,h=>by
  simp only[List.all_cons,Bool.and_eq_true] at hp
  obtain ⟨⟨h1,h2⟩,hr⟩:=hp
  obtain ⟨o,ho⟩:=Option.isSome_iff_exists.mp h1
  have ho':ops.toList[i]? = some o:=by simpa using ho
  simp only[wl,ho]
  simp only[ho,Option.bind_some] at h2
  simp only[cmp,cmp1,ho'] at h
  cases hg:o.guard with
  | none=>
   simp only[hg,gOf,wq] at h
   rw[if_pos (by simp[Region.wanted,hg])]
   cases q with
   | true=>
    simp only[if_true] at h ⊢
    obtain ⟨v,hv,hk⟩:=aNb (S:=S) (ty:=o.type) hM h
    exact ⟨v,hv,aBl hM r _ w hr hk⟩
   | false=>
    simp only[Bool.false_eq_true,if_false] at h ⊢
    exact Oper.wp_mono (fun a' w' hh=>⟨hh.1,aBl hM r _ _ hr hh.2⟩) (h o.pos o.after o.guard)
  | some gg=>
   obtain ⟨j,b⟩:=gg
   simp only[hg] at h2
   obtain ⟨t,ht⟩:=Option.isSome_iff_exists.mp h2
   have ht':(ops.toList[j]?).bind (·.dst)=some t:=by simpa using ht
   simp only[hg,gOf,ht',wq] at h
   have hyield:∀c,a.eval (.tmp t)=.bool c->yielded ops a.tmps j=some c:=by
    intro c hc
    simp only[Act.eval] at hc
    have:=bDs.1 hc
    simp[yielded,ht,this]
   unfold gq at h
   split at h
   ·rename_i c hc
    have hy:=hyield c hc
    simp only[gsel,bGb hc] at h
    by_cases hcb:c=b
    ·subst hcb
     rw[if_pos (by simp[Region.wanted,hg,hy])]
     replace h:=h.1 rfl
     cases q with
     | true=>
      simp only[if_true] at h ⊢
      obtain ⟨v,hv,hk⟩:=aNb (S:=S) (ty:=o.type) hM h
      exact ⟨v,hv,aBl hM r _ w hr hk⟩
     | false=>
      simp only[Bool.false_eq_true,if_false] at h ⊢
      exact Oper.wp_mono (fun a' w' hh=>⟨hh.1,aBl hM r _ _ hr hh.2⟩) (h o.pos o.after o.guard)
    rw[if_neg (by simp[Region.wanted,hg,hy,hcb])]
    exact aBl hM r _ w hr (h.2 hcb)
   rename_i hnb
   have hy:yielded ops a.tmps j=none:=by
    simp only[Act.eval] at hnb
    simp only[yielded,ht]
    split
    ·rename_i c hc;exact absurd (bDs.2 (by simpa using hc)) (hnb c)
    rfl
   rw[if_neg (by simp[Region.wanted,hg,hy])]
   exact aBl hM r _ w hr h
end
section congrs
variable {P:Program} {M:Addr->Option Value} {K:Value->Prop}
@[congr] theorem bIw {op:BinOp} {x x' y y':Value} (hx:x=x') (hy:y=y'):binq op x y K=binq op x' y' K:=by rw[hx,hy]
@[congr] theorem bIz {op:UnOp} {x x':Value} (hx:x=x'):unq op x K=unq op x' K:=by rw[hx]
@[congr] theorem bJc {c c' x x' y y':Value} (hc:c=c') (hx:x=x') (hy:y=y'):pkq c x y K=pkq c' x' y' K:=by rw[hc,hx,hy]
@[congr] theorem bJb {o o':Option Nat} {x x':Value} (ho:o=o') (hx:x=x'):faq o x K=faq o' x' K:=by rw[ho,hx]
@[congr] theorem bJe {z z':Option Nat} {ar ar':Option (Nat×Nat)} {x x' i i':Value} (hz:z=z') (ha:ar=ar') (hx:x=x') (hi:i=i'):iaq z ar x i K=iaq z' ar' x' i' K:=by rw[hz,ha,hx,hi]
@[congr] theorem bJv {z z':Option Nat} {x x':Value} (hz:z=z') (hx:x=x'):ldq M z x K=ldq M z' x' K:=by rw[hz,hx]
@[congr] theorem bJg {x x':Value} (hx:x=x'):ncq x K=ncq x' K:=by rw[hx]
@[congr] theorem bIt {b b':Bool} {z z':Option Nat} {x x':Value} (hb:b=b') (hz:z=z') (hx:x=x'):lenq b z x K=lenq b' z' x' K:=by rw[hb,hz,hx]
@[congr] theorem bIv {x x' y y':Value} (hx:x=x') (hy:y=y'):maxq x y K=maxq x' y' K:=by rw[hx,hy]
@[congr] theorem bJd {b b':Bool} {z z':Option Nat} {x x':Value} {l l' h h':Option Value} (hb:b=b') (hz:z=z') (hx:x=x') (hl:l=l') (hh:h=h'):slq b z x l h K=slq b' z' x' l' h' K:=by
 rw[hb,hz,hx,hl,hh]
@[congr] theorem bJm {x x':Value} {i:Nat} (hx:x=x'):exq x i K=exq x' i K:=by rw[hx]
@[congr] theorem bJh {b b':Bool} {k k':Option IntKind} {x x':Value} (hb:b=b') (hk:k=k') (hx:x=x'):cvq b k x K=cvq b' k' x' K:=by rw[hb,hk,hx]
@[congr] theorem bJw {v v':Value} {b:Bool} {r s:Bool->Prop} {n:Prop} (hv:v=v'):gq v b r s n=gq v' b r s n:=by rw[hv]
@[congr] theorem bIu {S:World->Prop} {x:QOp} {a a':Act} {w:World} {K:Act->World->Prop} (ha:a=a'):effq P S x a w K=effq P S x a' w K:=by rw[ha]
end congrs
theorem qpre :
  (∀(P:Program) (M:Addr->Option Value) (x:Operand) (ev:Operand->Value) (K:Value->Prop),opq P M (.move x) ev K=K (ev x))/\
  (∀(P:Program) (M:Addr->Option Value) (x:Operand) (ev:Operand->Value) (K:Value->Prop),opq P M (.assign x) ev K=K (ev x))/\
  (∀(P:Program) (M:Addr->Option Value) (c x y:Operand) (ev:Operand->Value) (K:Value->Prop),opq P M (.pick c x y) ev K=pkq (ev c) (ev x) (ev y) K)/\
  (∀(P:Program) (M:Addr->Option Value) (op:BinOp) (t t':TypeId) (x y:Operand) (ev:Operand->Value) (K:Value->Prop),opq P M (.binOp op t x y t') ev K=binq op (ev x) (ev y) K)/\
  (∀(P:Program) (M:Addr->Option Value) (op:UnOp) (t:TypeId) (x:Operand) (ev:Operand->Value) (K:Value->Prop),opq P M (.unOp op t x) ev K=unq op (ev x) K)/\
  (∀(P:Program) (M:Addr->Option Value) (t:TypeId) (x:Operand) (i:Nat) (ev:Operand->Value) (K:Value->Prop),opq P M (.fieldAddr t x i) ev K=faq (fo P t i) (ev x) K)/\
  (∀(P:Program) (M:Addr->Option Value) (t:TypeId) (x i:Operand) (ev:Operand->Value) (K:Value->Prop),opq P M (.indexAddr t x i) ev K=iaq (es P t) (ea P t) (ev x) (ev i) K)/\
  (∀(P:Program) (M:Addr->Option Value) (t:TypeId) (x:Operand) (ev:Operand->Value) (K:Value->Prop),opq P M (.load t x) ev K=ldq M (lz P t) (ev x) K)/\
  (∀(P:Program) (M:Addr->Option Value) (x:Operand) (i:Nat) (ev:Operand->Value) (K:Value->Prop),opq P M (.extract x i) ev K=exq (ev x) i K)/\
  (∀(P:Program) (M:Addr->Option Value) (t:TypeId) (x l h:Operand) (ev:Operand->Value) (K:Value->Prop),opq P M (.slice t x (some l) (some h) none) ev K=slq (isStr P t) (es P t) (ev x) (some (ev l)) (some (ev h)) K)/\
  (∀(P:Program) (M:Addr->Option Value) (t:TypeId) (x l:Operand) (ev:Operand->Value) (K:Value->Prop),opq P M (.slice t x (some l) none none) ev K=slq (isStr P t) (es P t) (ev x) (some (ev l)) none K)/\
  (∀(P:Program) (M:Addr->Option Value) (t:TypeId) (x h:Operand) (ev:Operand->Value) (K:Value->Prop),opq P M (.slice t x none (some h) none) ev K=slq (isStr P t) (es P t) (ev x) none (some (ev h)) K)/\
  (∀(P:Program) (M:Addr->Option Value) (s d:TypeId) (x:Operand) (ev:Operand->Value) (K:Value->Prop),opq P M (.convert s d x) ev K=cvq (P.underlying s).isSome (ikOf P d) (ev x) K)/\
  (∀(P:Program) (M:Addr->Option Value) (t:TypeId) (x:Operand) (ev:Operand->Value) (K:Value->Prop),opq P M (.call ⟨.builtin .len,#[x],#[t]⟩) ev K=lenq (isStr P t) (es P t) (ev x) K)/\
  (∀(P:Program) (M:Addr->Option Value) (t:TypeId) (x:Operand) (ev:Operand->Value) (K:Value->Prop),opq P M (.call ⟨.builtin .cap,#[x],#[t]⟩) ev K=cpq (es P t) (ev x) K)/\
  (∀(P:Program) (M:Addr->Option Value) (x:Operand) (ev:Operand->Value) (K:Value->Prop),opq P M (.nilCheck x) ev K=ncq (ev x) K)/\
  (∀(P:Program) (M:Addr->Option Value) (t t':TypeId) (x y:Operand) (ev:Operand->Value) (K:Value->Prop),opq P M (.call ⟨.builtin .min,#[x,y],#[t,t']⟩) ev K=minq (ev x) (ev y) K)/\
  (∀(P:Program) (M:Addr->Option Value) (t t':TypeId) (x y:Operand) (ev:Operand->Value) (K:Value->Prop),opq P M (.call ⟨.builtin .max,#[x,y],#[t,t']⟩) ev K=maxq (ev x) (ev y) K)/\
  (∀(r s:Bool->Prop),gl true true r s=r true)/\(∀(r s:Bool->Prop),gl true false r s=s true)/\
  (∀(r s:Bool->Prop),gl false true r s=s false)/\(∀(r s:Bool->Prop),gl false false r s=r false)/\
  (∀(r s:Bool->Prop),gsel true true r s=r true)/\(∀(r s:Bool->Prop),gsel true false r s=s true)/\
  (∀(r s:Bool->Prop),gsel false true r s=s false)/\(∀(r s:Bool->Prop),gsel false false r s=r false)/\
  (∀(b o:Nat) (K:Nat->Nat->Prop) (t:Tag K),rowAt (some ⟨b,o,none⟩) K t=K b o)/\
  (∀A B:Prop,gsym true A B=A)/\(∀A B:Prop,gsym false A B=B)/\
  (∀(x:Int) (K:Value->Prop),arith .i64 x K=(inI64 x/\K (.int .i64 x)))/\
  (∀(x:Int) (K:Value->Prop),arith .u8 x K=K (.int .u8 (IntKind.u8.wrap x)))/\
  (∀(x:Int) (K:Value->Prop),arith .u64 x K=K (.int .u64 (IntKind.u64.wrap x)))/\
  (∀(x:Int) (K:Value->Prop),arith .i32 x K=K (.int .i32 (IntKind.i32.wrap x)))/\
  (∀(x:Int) (K:Value->Prop),arith .u32 x K=K (.int .u32 (IntKind.u32.wrap x))):=
 by
 repeat' (apply And.intro)
 all_goals first
  | (intros;rfl)
  | (intros;exact aYq _ _ _ _)
  | (intros;simp[gsel,gl];done)
  | (intros;simp[gsym];done)
theorem bDv {M:Addr->Option Value}{b o:Nat}{K:Value->Prop}(n j:Nat)(l:List Value) :
  ldcs M b o K (n+1) j l=ld1 (M ⟨b,o+j,none⟩) (fun v=>ldcs M b o K n (j+1) (v::l)) .mk:=by
 simp only[ldcs,ld1]
theorem bIh {b c:Bool}{r s:Bool->Prop}:gsel c b r s=gsym c (gsel true b r s) (gsel false b r s):=by
 apply propext
 cases c<;>simp[gsym]
theorem aAb :
  (∀(P:Program) (S:World->Prop) (M:Addr->Option Value) (Q:Act->World->Prop) (a:Act) (w:World),wq P S M Q [] a w=Q a w)/\
  (∀(P:Program) (S:World->Prop) (M:Addr->Option Value) (Q:Act->World->Prop) (d:Option Tmp) (o:Op) (ty:TypeId) (r:List QOp) (a:Act) (w:World),
   wq P S M Q (⟨true,d,o,ty,none⟩::r) a w=opq P M o a.eval (fun v=>wq P S M Q r (a.put d v) w))/\
  (∀(P:Program) (S:World->Prop) (M:Addr->Option Value) (Q:Act->World->Prop) (d:Option Tmp) (o:Op) (ty:TypeId) (r:List QOp) (a:Act) (w:World),
   wq P S M Q (⟨false,d,o,ty,none⟩::r) a w=effq P S ⟨false,d,o,ty,none⟩ a w (wq P S M Q r))/\
  (∀(P:Program) (S:World->Prop) (M:Addr->Option Value) (Q:Act->World->Prop) (d:Option Tmp) (o:Op) (ty:TypeId) (t:Tmp) (b:Bool) (r:List QOp) (a:Act) (w:World),
   wq P S M Q (⟨true,d,o,ty,some (t,b)⟩::r) a w=gq (a.eval (.tmp t)) b
    (fun c=>opq P M o (a.put (some t) (.bool c)).eval (fun v=>wq P S M Q r ((a.put (some t) (.bool c)).put d v) w))
    (fun c=>wq P S M Q r ((a.put (some t) (.bool c)).put d undef) w) (wq P S M Q r (a.put d undef) w))/\
  (∀(P:Program) (S:World->Prop) (M:Addr->Option Value) (Q:Act->World->Prop) (d:Option Tmp) (o:Op) (ty:TypeId) (t:Tmp) (b:Bool) (r:List QOp) (a:Act) (w:World),
   wq P S M Q (⟨false,d,o,ty,some (t,b)⟩::r) a w=gq (a.eval (.tmp t)) b
    (fun c=>effq P S ⟨false,d,o,ty,none⟩ (a.put (some t) (.bool c)) w (wq P S M Q r))
    (fun c=>wq P S M Q r ((a.put (some t) (.bool c)).put d undef) w) (wq P S M Q r (a.put d undef) w))/\
  (∀(c b:Bool) (r s:Bool->Prop) (n:Prop),gq (.bool c) b r s n=gsym c (gl true b r s) (gl false b r s))/\
  (∀(b:Bool) (r s:Bool->Prop) (n:Prop),gq undef b r s n=n)/\
  (∀(k:IntKind) (m n:Int) (K:Value->Prop),binq .add (.int k m) (.int k n) K=arith k (m+n) K)/\
  (∀(k:IntKind) (m n:Int) (K:Value->Prop),binq .sub (.int k m) (.int k n) K=arith k (m-n) K)/\
  (∀(k:IntKind) (m n:Int) (K:Value->Prop),binq .mul (.int k m) (.int k n) K=arith k (m*n) K)/\
  (∀(k:IntKind) (m n:Int) (K:Value->Prop),binq .rem (.int k m) (.int k n) K=((0<=m/\0<n)/\K (.int k (m % n))))/\
  (∀(k:IntKind) (m n:Int) (K:Value->Prop),binq .quo (.int k m) (.int k n) K=((0<=m/\0<n)/\arith k (m / n) K))/\
  (∀(k:IntKind) (m n:Int) (K:Value->Prop),binq .eql (.int k m) (.int k n) K=K (.bool (decide (m=n))))/\
  (∀(k:IntKind) (m n:Int) (K:Value->Prop),binq .neq (.int k m) (.int k n) K=K (.bool (!decide (m=n))))/\
  (∀(k:IntKind) (m n:Int) (K:Value->Prop),binq .lss (.int k m) (.int k n) K=K (.bool (decide (m<n))))/\
  (∀(k:IntKind) (m n:Int) (K:Value->Prop),binq .leq (.int k m) (.int k n) K=K (.bool (decide (m<=n))))/\
  (∀(k:IntKind) (m n:Int) (K:Value->Prop),binq .gtr (.int k m) (.int k n) K=K (.bool (decide (n<m))))/\
  (∀(k:IntKind) (m n:Int) (K:Value->Prop),binq .geq (.int k m) (.int k n) K=K (.bool (decide (n<=m))))/\
  (∀(m n:ByteArray) (K:Value->Prop),binq .eql (.string m) (.string n) K=K (.bool (decide (m=n))))/\
  (∀(m n:ByteArray) (K:Value->Prop),binq .neq (.string m) (.string n) K=K (.bool (!decide (m=n))))/\
  (∀(s t:ByteArray) (K:Value->Prop),binq .add (.string s) (.string t) K=((((s.size+t.size:Nat):Int)<=9223372036854775807)/\K (.string (s++t))))/\
  (∀(s t:ByteArray) (K:Value->Prop),binq .lss (.string s) (.string t) K=K (.bool (Op.bytesLess s.toList t.toList)))/\
  (∀(s t:ByteArray) (K:Value->Prop),binq .geq (.string s) (.string t) K=K (.bool (!Op.bytesLess s.toList t.toList)))/\
  (∀(s t:ByteArray) (K:Value->Prop),binq .leq (.string s) (.string t) K=K (.bool (Op.bytesLess s.toList t.toList || decide (s=t))))/\
  (∀(s t:ByteArray) (K:Value->Prop),binq .gtr (.string s) (.string t) K=K (.bool (!(Op.bytesLess s.toList t.toList || decide (s=t)))))/\
  (∀(b:Bool) (K:Value->Prop),unq .not (.bool b) K=K (.bool (!b)))/\
  (∀(k:IntKind) (n:Int) (K:Value->Prop),unq .neg (.int k n) K=arith k (0-n) K)/\
  (∀(x y:Value) (K:Value->Prop),pkq (.bool true) x y K=K x)/\(∀(x y:Value) (K:Value->Prop),pkq (.bool false) x y K=K y)/\
  (∀(n b o:Nat) (K:Value->Prop),faq (some n) (.pointer (some ⟨b,o,none⟩)) K=K (.pointer (some ⟨b,o+n,none⟩)))/\
  (∀(z n c:Nat) (ar:Option (Nat×Nat)) (A:Option Addr) (k:IntKind) (i:Int) (K:Value->Prop),
   iaq (some z) ar (.slice A n c) (.int k i) K=((0<=i/\i<n)/\rowAt A (fun b o=>K (.pointer (some ⟨b,o+i.toNat*z,none⟩))) .mk))/\
  (∀(z:Option Nat) (n m b o:Nat) (k:IntKind) (i:Int) (K:Value->Prop),
   iaq z (some (n,m)) (.pointer (some ⟨b,o,none⟩)) (.int k i) K=((0<=i/\i<n)/\K (.pointer (some ⟨b,o+i.toNat*m,none⟩))))/\
  (∀(M:Addr->Option Value) (b o:Nat) (K:Value->Prop),ldq M (some 0) (.pointer (some ⟨b,o,none⟩)) K=ld1 (M ⟨b,o,none⟩) K .mk)/\
  (∀(M:Addr->Option Value) (n b o:Nat) (K:Value->Prop),ldq M (some (n+1)) (.pointer (some ⟨b,o,none⟩)) K=ldcs M b o K n 0 [])/\
  (∀(M:Addr->Option Value) (b o j:Nat) (K:Value->Prop) (l:List Value),ldcs M b o K 0 j l=K (.agg l.reverse.toArray))/\
  (∀(M:Addr->Option Value) (n b o j:Nat) (K:Value->Prop) (l:List Value),ldcs M b o K (n+1) j l=ld1 (M ⟨b,o+j,none⟩) (fun v=>ldcs M b o K n (j+1) (v::l)) .mk)/\
  (∀(v:Value) (K:Value->Prop) (t:Tag K),ld1 (some v) K t=K v)/\
  (∀(z n c:Nat) (A:Option Addr) (K:Value->Prop),lenq false (some z) (.slice A n c) K=K (.int .i64 n))/\
  (∀(s:ByteArray) (K:Value->Prop),lenq true none (.string s) K=K (.int .i64 s.size))/\
  (∀(z n c:Nat) (A:Option Addr) (K:Value->Prop),cpq (some z) (.slice A n c) K=K (.int .i64 c))/\
  (∀(p:Addr) (K:Value->Prop),ncq (.pointer (some p)) K=K (.pointer (some p)))/\
  (∀(k:IntKind) (m n:Int) (K:Value->Prop),minq (.int k m) (.int k n) K=K (.int k (min m n)))/\
  (∀(k:IntKind) (m n:Int) (K:Value->Prop),maxq (.int k m) (.int k n) K=K (.int k (max m n)))/\
  (∀(z n c:Nat) (A:Option Addr) (k k':IntKind) (l h:Int) (K:Value->Prop),slq false (some z) (.slice A n c) (some (.int k l)) (some (.int k' h)) K=((0<=l/\l<=h/\h<=c)/\K (sliced A l.toNat h.toNat c z)))/\
  (∀(z n c:Nat) (A:Option Addr) (k:IntKind) (l:Int) (K:Value->Prop),slq false (some z) (.slice A n c) (some (.int k l)) none K=((0<=l/\l<=n)/\K (sliced A l.toNat n c z)))/\
  (∀(z n c:Nat) (A:Option Addr) (k:IntKind) (h:Int) (K:Value->Prop),slq false (some z) (.slice A n c) none (some (.int k h)) K=((0<=h/\h<=c)/\K (sliced A 0 h.toNat c z)))/\
  (∀(s:ByteArray) (k k':IntKind) (l h:Int) (K:Value->Prop),slq true none (.string s) (some (.int k l)) (some (.int k' h)) K=((0<=l/\l<=h/\h<=s.size)/\K (.string (s.extract l.toNat h.toNat))))/\
  (∀(s:ByteArray) (k:IntKind) (l:Int) (K:Value->Prop),slq true none (.string s) (some (.int k l)) none K=((0<=l/\l<=s.size)/\K (.string (s.extract l.toNat s.size))))/\
  (∀(s:ByteArray) (k:IntKind) (h:Int) (K:Value->Prop),slq true none (.string s) none (some (.int k h)) K=((0<=h/\h<=s.size)/\K (.string (s.extract 0 h.toNat))))/\
  (∀(k k':IntKind) (n:Int) (K:Value->Prop),cvq true (some k') (.int k n) K=K (.int k' (k'.wrap n)))/\
  (∀(u v:Value) (K:Value->Prop),exq (.tuple #[u,v]) 0 K=K u)/\(∀(u v:Value) (K:Value->Prop),exq (.tuple #[u,v]) 1 K=K v)/\
  (∀(l:List Value) (df:List Deferred) (d:Tmp) (v:Value),Act.put ⟨l.toArray,df⟩ (some d) v=⟨(l.set d v).toArray,df⟩)/\
  (∀(a:Act) (v:Value),a.put none v=a)/\
  (∀(l:List Value) (d:List Deferred) (t:Nat),Act.eval ⟨l.toArray,d⟩ (.tmp t)=sl l t)/\
  (∀(a:Act) (v:Value),a.eval (.const v)=v)/\(∀(a:Act) (f:FuncId),a.eval (.func f)=.func (.func f) #[] #[])/\
  (∀(v:Value) (l:List Value),sl (v::l) 0=v)/\(∀(v:Value) (l:List Value) (n:Nat),sl (v::l) (n+1)=sl l n):=by
 repeat' (apply And.intro)
 all_goals first
  | (intros;rfl)
  | (intros;exact bIh)
  | (intros;exact bDv _ _ _)
  | (intros;simp[binq,minq,maxq,exq];done)
  | (intros;apply Act.put.eq_1)
  | (intros;simp[Act.put];done)
  | (intros;exact bJt _ _ _)
def bitsOf (l:List Nat):Nat:=l.foldl (fun m t=>m ||| 2 ^ t) 0
theorem aQa (l:List Nat)(m t:Nat):(l.foldl (fun m t=>m ||| 2 ^ t) m).testBit t=(m.testBit t || decide (t∈l)):=by
 induction l generalizing m with
 | nil=>simp
 | cons x l ih=>
  rw[List.foldl_cons,ih,Nat.testBit_or,Nat.testBit_two_pow]
  by_cases h:x=t
  ·subst h;simp
  simp[h,Ne.symm h]
theorem aAr (l:List Nat)(t:Nat):(bitsOf l).testBit t=decide (t∈l):=by
 unfold bitsOf;rw[aQa];simp
structure OBits where
 dep:Nat
 dst:Nat
 look:Nat
def obits (ops:Array Oper)(o:Oper):OBits:=
 ⟨bitsOf (o.after.toList.filterMap fun e=>if Region.binds .any e then some e.on else none),match o.dst with | some d=>2 ^ d | none=>0,bitsOf (o.looksAt ops)⟩
def inM (x m:Nat):Bool:=Nat.land x m == x
def clash (i:Nat)(x:OBits):List OBits->Nat->Nat
 | [],_=>0
 | y::l,j=>
  Nat.lor (bif Nat.beq i j then 0 else bif y.dep.testBit i then 0 else bif Nat.land (Nat.lor y.look y.dst) x.dst == 0 && Nat.land x.look y.dst == 0 then 0 else 2 ^ j) (clash i x l (j+1))
def clashes (all:List OBits):List OBits->Nat->List (Nat×Nat)
 | [],_=>[]
 | x::l,i=>(x.dep,clash i x all 0)::clashes all l (i+1)
def alone (m i:Nat):List (Nat×Nat)->Nat->Bool
 | [],_=>true
 | x::l,j=>(Nat.beq i j || m.testBit j || !inM x.1 m) && alone m i l (j+1)
def planF (D:List (Nat×Nat)):List (Bool×Nat)->Nat->Bool
 | [],m=>inM (2 ^ D.length-1) m
 | (q,i)::r,m=>
  match D[i]? with
  | none=>false
  | some x=>!m.testBit i && inM x.1 m && (bif q then inM x.2 m else alone m i D 0) && planF D r (Nat.lor m (2 ^ i))
theorem aIu {x m:Nat}(h:inM x m=true){t:Nat}(ht:x.testBit t=true):m.testBit t=true:=by
 have h1:x &&& m=x:=by simpa[inM] using h
 have:=congrArg (·.testBit t) h1
 simp only[Nat.testBit_and,ht,Bool.true_and] at this
 exact this
theorem bHs {x m:Nat}(h:∀t,x.testBit t=true->m.testBit t=true):inM x m=true:=by
 have h1:x &&& m=x:=by
  apply Nat.eq_of_testBit_eq
  intro t
  rw[Nat.testBit_and]
  cases hx:x.testBit t
  ·rfl
  simp[h t hx]
 simpa[inM] using h1
theorem aNg {i:Nat}{x:OBits}:∀(l:List OBits) (k j:Nat) (y:OBits),l[j]? = some y->(clash i x l k).testBit (k+j)=false->
  i=k+j\/y.dep.testBit i=true\/((Nat.lor y.look y.dst) &&& x.dst=0/\x.look &&& y.dst=0)
 | [],k,j,y,h,_=>by simp at h
 | z::l,k,0,y,h,hb=>by
  obtain rfl:z=y:=by simpa using h
  simp only[clash] at hb
  have hb':=hb
  rw[show Nat.lor _ _=_ ||| _ from rfl,Nat.testBit_or,Bool.or_eq_false_iff] at hb'
  replace hb':=hb'.1
  by_cases h1:i=k
  ·exact .inl (by omega)
  have e1:Nat.beq i k=false:=by rw[<-Bool.not_eq_true,Nat.beq_eq];exact h1
  rw[e1] at hb'
  cases h2:z.dep.testBit i with
  | true=>exact .inr (.inl rfl)
  | false=>
   rw[h2] at hb'
   simp only[cond_false] at hb'
   by_cases h3:(Nat.land (Nat.lor z.look z.dst) x.dst == 0 && Nat.land x.look z.dst == 0)=true
   ·simp only[Bool.and_eq_true,beq_iff_eq] at h3
    exact .inr (.inr h3)
   rw[Bool.not_eq_true] at h3
   rw[h3] at hb'
   simp[] at hb'
 | z::l,k,j+1,y,h,hb=>by
  simp only[clash] at hb
  rw[show Nat.lor _ _=_ ||| _ from rfl,Nat.testBit_or,Bool.or_eq_false_iff] at hb
  have:=aNg l (k+1) j y (by simpa using h) (by rw[show k+1+j=k+(j+1) from by omega];exact hb.2)
  rw[show k+1+j=k+(j+1) from by omega] at this
  exact this
theorem aEp (all:List OBits):∀(l:List OBits) (k i:Nat),(clashes all l k)[i]? = (l[i]?).map fun x=>(x.dep,clash (k+i) x all 0)
 | [],k,i=>by simp[clashes]
 | x::l,k,0=>by simp[clashes]
 | x::l,k,i+1=>by simp only[clashes,List.getElem?_cons_succ];rw[aEp all l (k+1) i,show k+1+i=k+(i+1) from by omega]
theorem aNv {m i:Nat}:∀(l:List (Nat×Nat)) (k j:Nat) (x:Nat×Nat),alone m i l k=true->l[j]? = some x->i=k+j\/m.testBit (k+j)=true\/inM x.1 m=false
 | [],k,j,x,_,h=>by simp at h
 | z::l,k,0,x,h,hx=>by
  obtain rfl:z=x:=by simpa using hx
  simp only[alone,Bool.and_eq_true,Bool.or_eq_true] at h
  rcases h.1 with (h1 | h1) | h1
  ·exact .inl (by simpa using Nat.eq_of_beq_eq_true h1)
  ·exact .inr (.inl (by simpa using h1))
  exact .inr (.inr (by simpa using h1))
 | z::l,k,j+1,x,h,hx=>by
  simp only[alone,Bool.and_eq_true] at h
  have:=aNv l (k+1) j x h.2 (by simpa using hx)
  rw[show k+1+j=k+(j+1) from by omega] at this
  exact this
def dataOf (ops:Array Oper):List (Nat×Nat):=let all:=ops.toList.map (obits ops);clashes all all 0
theorem aKn {n i:Nat}{p:Nat->Bool}(hi:i<n)(hp:p i=true)(hno:∀j,j<n->j≠i->p j=false):(List.range n).filter p=[i]:=by
 have h1:(List.range n).filter p=(List.range n).filter (fun j=>j == i):=by
  apply List.filter_congr
  intro j hj
  by_cases h:j=i
  ·subst h;simp[hp]
  rw[hno j (List.mem_range.1 hj) h];simp[h]
 rw[h1]
 induction n with
 | zero=>omega
 | succ n ih=>
  rw[List.range_succ,List.filter_append]
  by_cases h:i=n
  ·subst h
   have:(List.range i).filter (fun j=>j == i)=[]:=by
    rw[List.filter_eq_nil_iff];intro j hj;have:=List.mem_range.1 hj;simp;omega
   simp[this]
  have:=ih (by omega) (fun j hj=>hno j (by omega)) (by
   apply List.filter_congr
   intro j hj
   by_cases h:j=i
   ·subst h;simp[hp]
   rw[hno j (by have:=List.mem_range.1 hj;omega) h];simp[h])
  rw[this]
  have:(n == i)=false:=by simp;omega
  simp[this]
theorem aCd {ops:Array Oper}:∀(π:List (Bool×Nat)) (m:Nat) (listed:Array Bool),listed.size=ops.size->(∀j,j<ops.size->listed[j]? = some (m.testBit j))->(∀j,ops.size<=j->m.testBit j=false)->
  planF (dataOf ops) π m=true->planOk ops π listed=true
 | [],m,listed,hsz,hl,hz,h=>by
  simp only[planF] at h
  have hlen:(dataOf ops).length=ops.size:=by
   have hh:∀(all l:List OBits) (k:Nat),(clashes all l k).length=l.length:=by
    intro all l
    induction l with
    | nil=>intro k;rfl
    | cons x l ih=>intro k;simp[clashes,ih]
   simp[dataOf,hh]
  rw[hlen] at h
  simp only[planOk,List.isEmpty_iff]
  apply List.eq_nil_iff_forall_not_mem.2
  intro j hj
  obtain ⟨h1,oj,hoj,_⟩:=mem_ready.1 hj
  have hjlt:j<ops.size:=(Array.getElem?_eq_some_iff.1 hoj).1
  have hb:=aIu h (t:=j) (by rw[Nat.testBit_two_pow_sub_one];simpa using hjlt)
  have:=hl j hjlt
  simp[this,hb] at h1
 | (q,i)::r,m,listed,hsz,hl,hz,h=>by
  simp only[planF] at h
  split at h
  ·cases h
  rename_i x hx
  simp only[Bool.and_eq_true,Bool.not_eq_true'] at h
  obtain ⟨⟨⟨h1,h2⟩,h3⟩,h4⟩:=h
  have hx':=hx
  rw[dataOf,aEp,Option.map_eq_some_iff] at hx'
  obtain ⟨xb,hxb,rfl⟩:=hx'
  rw[List.getElem?_map,Option.map_eq_some_iff] at hxb
  obtain ⟨o,ho,rfl⟩:=hxb
  have hoi:ops[i]? = some o:=by simpa using ho
  have hilt:i<ops.size:=(Array.getElem?_eq_some_iff.1 hoi).1
  have hD:∀j oj,ops[j]? = some oj->(dataOf ops)[j]? = some ((obits ops oj).dep,clash j (obits ops oj) (ops.toList.map (obits ops)) 0):=by
   intro j oj hj
   have hj':ops.toList[j]? = some oj:=by simpa using hj
   simp only[dataOf]
   rw[aEp,List.getElem?_map,hj']
   simp
  have aHz:∀(oj:Oper),inM (obits ops oj).dep m=true↔∀e∈oj.after,Region.binds .any e=true->m.testBit e.on=true:=by
   intro oj
   constructor
   ·intro hh e he hbd
    refine aIu hh ?_
    simp only[obits,aAr,decide_eq_true_eq,List.mem_filterMap]
    exact ⟨e,by simpa using he,by simp[hbd]⟩
   intro hh
   refine bHs fun t ht=>?_
   simp only[obits,aAr,decide_eq_true_eq,List.mem_filterMap] at ht
   obtain ⟨e,he,hte⟩:=ht
   split at hte
   ·rename_i hbd
    cases hte
    exact hh e (by simpa using he) hbd
   cases hte
  have hready:∀j oj,ops[j]? = some oj->(j∈Region.ready .any ops listed↔m.testBit j=false/\inM (obits ops oj).dep m=true):=by
   intro j oj hj
   have hjlt:j<ops.size:=(Array.getElem?_eq_some_iff.1 hj).1
   rw[mem_ready]
   constructor
   ·rintro ⟨g1,oj',hj',g2⟩
    rw[hj] at hj';cases hj'
    refine ⟨by simpa[hl j hjlt] using g1,(aHz oj).2 fun e he hbd=>?_⟩
    have:=g2 e he hbd
    by_cases hlt:e.on<ops.size
    ·simpa[hl _ hlt] using this
    have hn:listed[e.on]? = none:=by rw[Array.getElem?_eq_none];omega
    simp[hn] at this
   rintro ⟨g1,g2⟩
   refine ⟨by simp[hl j hjlt,g1],oj,hj,fun e he hbd=>?_⟩
   have hb:=(aHz oj).1 g2 e he hbd
   by_cases hlt:e.on<ops.size
   ·simp[hl _ hlt,hb]
   rw[hz _ (by omega)] at hb
   cases hb
  have hnext:planOk ops r (listed.setIfInBounds i true)=true:=by
   refine aCd r (m ||| 2 ^ i) _ (by simp[hsz]) (fun j hj=>?_) (fun j hj=>by rw[Nat.testBit_or,Nat.testBit_two_pow,hz j hj];simp;omega) h4
   rw[Array.getElem?_setIfInBounds]
   by_cases hij:i=j
   ·subst hij;simp[hsz,hilt,Nat.testBit_or]
   rw[if_neg hij,hl j hj,Nat.testBit_or,Nat.testBit_two_pow];simp[hij]
  cases q with
  | true=>
   simp only[cond_true] at h3
   simp only[planOk,Bool.and_eq_true]
   refine ⟨⟨?_,?_⟩,hnext⟩
   ·simp only[Region.free,hoi,List.all_eq_true,List.mem_range,Bool.or_eq_true,beq_iff_eq]
    intro j hj
    by_cases hji:j=i
    ·exact .inl (.inl hji)
    cases hm:m.testBit j with
    | true=>exact .inl (.inr (by simp[hl j hj,hm]))
    | false=>
     right
     obtain ⟨oj,hoj⟩:∃oj,ops[j]? = some oj:=⟨ops[j],Array.getElem?_eq_getElem hj⟩
     simp only[hoj,Bool.or_eq_true]
     have hcl:(clash (0+i) (obits ops o) (ops.toList.map (obits ops)) 0).testBit (0+j)=false:=by
      cases hc:(clash (0+i) (obits ops o) (ops.toList.map (obits ops)) 0).testBit (0+j) with
      | false=>rfl
      | true=>
       have:=aIu h3 hc
       simp[hm] at this
     have hjl:(ops.toList.map (obits ops))[j]? = some (obits ops oj):=by
      rw[List.getElem?_map];have:ops.toList[j]? = some oj:=by simpa using hoj
      rw[this];rfl
     rcases aNg _ 0 j _ hjl hcl with g | g | g
     ·exact absurd (by omega) hji
     ·left
      simp only[obits,aAr,decide_eq_true_eq,List.mem_filterMap] at g
      obtain ⟨e,he,hte⟩:=g
      split at hte
      ·rename_i hbd
       rw[Array.any_eq_true']
       exact ⟨e,by simpa using he,by simp at hte;simp[hbd,hte]⟩
      cases hte
     right
     obtain ⟨g1,g2⟩:=g
     have nb:∀(a b:Nat),a &&& b=0->∀t,a.testBit t=true->b.testBit t=true->False:=by
      intro a b hab t ha hb
      have:=congrArg (·.testBit t) hab
      simp[Nat.testBit_and,ha,hb] at this
     simp only[Oper.apart,Bool.and_eq_true]
     constructor
     ·cases hd:o.dst with
      | none=>rfl
      | some d=>
       simp only[Bool.and_eq_true,Bool.not_eq_true',bne_iff_ne]
       have hbd:(obits ops o).dst.testBit d=true:=by simp[obits,hd]
       constructor
       ·cases hc:(oj.looksAt ops).contains d with
        | false=>rfl
        | true=>
         exfalso
         refine nb _ _ g1 d ?_ hbd
         rw[show Nat.lor _ _=_ ||| _ from rfl,Nat.testBit_or]
         have:(obits ops oj).look.testBit d=true:=by
          simp only[obits,aAr,decide_eq_true_eq];simpa using hc
         simp[this]
       intro hdd
       refine nb _ _ g1 d ?_ hbd
       rw[show Nat.lor _ _=_ ||| _ from rfl,Nat.testBit_or]
       have:(obits ops oj).dst.testBit d=true:=by simp[obits,hdd]
       simp[this]
     cases hd:oj.dst with
     | none=>rfl
     | some d=>
      simp only[Bool.not_eq_true']
      cases hc:(o.looksAt ops).contains d with
      | false=>rfl
      | true=>
       exfalso
       refine nb _ _ g2 d ?_ ?_
       ·simp only[obits,aAr,decide_eq_true_eq];simpa using hc
       simp[obits,hd]
   have:=(hready i o hoi).2 ⟨h1,h2⟩
   simpa using this
  | false=>
   simp only[cond_false] at h3
   simp only[planOk,Bool.and_eq_true,beq_iff_eq]
   refine ⟨?_,hnext⟩
   have hall:∀j,j<ops.size->(j∈Region.ready .any ops listed↔j=i):=by
    intro j hj
    obtain ⟨oj,hoj⟩:∃oj,ops[j]? = some oj:=⟨ops[j],Array.getElem?_eq_getElem hj⟩
    rw[hready j oj hoj]
    constructor
    ·rintro ⟨g1,g2⟩
     rcases aNv _ 0 j _ h3 (hD j oj hoj) with g | g | g
     ·omega
     ·simp[g1] at g
     rw[g2] at g;cases g
    rintro rfl
    rw[hoi] at hoj;cases hoj
    exact ⟨h1,h2⟩
   unfold Region.ready at hall ⊢
   refine aKn hilt ?_ ?_
   ·have:=(hall i hilt).2 rfl
    exact (List.mem_filter.1 this).2
   intro j hj hne
   exact Bool.eq_false_iff.2 fun hp=>absurd ((hall j hj).1 (List.mem_filter.2 ⟨List.mem_range.2 hj,hp⟩)) hne
def planChk (ops:Array Oper) (π:List (Bool×Nat)):Bool:=
 Region.noSelect ops && Nat.ble π.length ops.size && planF (dataOf ops) π 0 && (π.all fun x=>(ops[x.2]?).isSome && (match (ops[x.2]?).bind (·.guard) with | some (j,_)=>((ops[j]?).bind (·.dst)).isSome | none=>true))
theorem aAh {P:Program}{ops:Array Oper}{id:Nat} {Q':Exit->Act->World->Prop}{a:Act}{w:World}(S:World->Prop) (π:List (Bool×Nat))(hm:P.follows .mixedOrders=true)
  (hc:planChk ops π=true)
  (hS:S w.drew)
  (h:∀(T:World->Prop) (M:Addr->Option Value) (Q:Act->World->Prop),(∀w,S w->T w)->(∀w,T w->S w)->(∀p v,(∀w,S w->w.cell? p=some v)->M p=some v)->(∀a w,Q' .normal a w->Q a w)->wq P T M Q (cmp ops π) a w.drew) :
  (Code.region id ops true).wp P Q' a w:=by
 simp only[planChk,Bool.and_eq_true,Nat.ble_eq] at hc
 obtain ⟨⟨⟨c1,c2⟩,c3⟩,c4⟩:=hc
 have c5:planOk ops π (Array.replicate ops.size false)=true:=aCd π 0 _ (by simp) (fun j hj=>by simp[hj]) (fun j _=>by simp) c3
 refine aQo S π hm (by simp only[Bool.and_eq_true,decide_eq_true_eq];exact ⟨⟨c1,c2⟩,c5⟩) hS ?_
 have hM:∀p v,(Classical.epsilon fun o:Option Value=>∀v,o=some v↔∀w,S w->w.cell? p=some v)=some v↔∀w,S w->w.cell? p=some v:=by
  intro p
  have hex:∃o:Option Value,∀v,o=some v↔∀w,S w->w.cell? p=some v:=by
   by_cases hx:∃v,∀w,S w->w.cell? p=some v
   ·obtain ⟨v,hv⟩:=hx
    refine ⟨some v,fun u=>⟨fun e=>(by cases e;exact hv),fun hu=>?_⟩⟩
    have h1:=hv _ hS
    rw[hu _ hS] at h1
    exact h1.symm
   exact ⟨none,fun u=>⟨fun e=>(by cases e),fun hu=>absurd ⟨u,hu⟩ hx⟩⟩
  exact Classical.epsilon_spec hex
 exact aBl (M:=fun p=>Classical.epsilon fun o:Option Value=>∀v,o=some v↔∀w,S w->w.cell? p=some v)
  (fun p v h=>(hM p v).1 h) π a w.drew c4 (h S _ _ (fun _ h=>h) (fun _ h=>h) (fun p v h=>(hM p v).2 h) (fun _ _ h=>h))
def qs:Nat->List (Bool×Nat)
 | 0=>[]
 | n+1=>qs n++[(true,n)]
def gO2 (b:Bool):Option Tmp->Option (Tmp×Bool)
 | some t=>some (t,b)
 | none=>none
def cmp2 (l:List Oper)(q:Bool):Option Oper->QOp
 | some o=>⟨q,o.dst,o.op,o.type,gOf l.toArray o.guard⟩
 | none=>⟨true,none,.panic (.const undef),0,none⟩
def qe (effs:List Nat):Nat->List (Bool×Nat)
 | 0=>[]
 | n+1=>qe effs n++[(!effs.contains n,n)]
theorem qcmp :
  (∀ops:Array Oper,cmp ops []=[])/\(∀(ops:Array Oper) (q:Bool) (i:Nat) (r:List (Bool×Nat)),cmp ops ((q,i)::r)=cmp1 ops q i::cmp ops r)/\
  (∀(l:List Oper) (q:Bool) (i:Nat),cmp1 l.toArray q i=cmp2 l q l[i]?)/\
  (∀(l:List Oper) (q:Bool) (d:Option Tmp) (o:Op) (t:TypeId) (p:String) (af:Array Edge),cmp2 l q (some ⟨d,o,t,p,af,none⟩)=⟨q,d,o,t,none⟩)/\
  (∀(l:List Oper) (q:Bool) (d:Option Tmp) (o:Op) (t:TypeId) (p:String) (af:Array Edge) (j:Nat) (b:Bool),cmp2 l q (some ⟨d,o,t,p,af,some (j,b)⟩)=⟨q,d,o,t,gO2 b (l[j]?.bind (·.dst))⟩)/\
  (∀(t:Tmp) (b:Bool),gO2 b (some t)=some (t,b))/\
  (qs 0=[])/\(∀n,qs (n+1)=qs n++[(true,n)])/\(∀e,qe e 0=[])/\(∀e n,qe e (n+1)=qe e n++[(!e.contains n,n)])/\
  (∀l:List (Bool×Nat),[]++l=l)/\(∀(x:Bool×Nat) (l m:List (Bool×Nat)),(x::l)++m=x::(l++m))/\
  (∀(x:Oper) (l:List Oper) (n:Nat),(x::l)[n+1]? = l[n]?)/\(∀(x:Oper) (l:List Oper),(x::l)[0]? = some x)/\
  (∀(o:Oper) (f:Oper->Option Tmp),(some o).bind f=f o)/\
  (∀a:Nat,([]:List Nat).contains a=false)/\(∀(a b:Nat) (l:List Nat),(b::l).contains a=(a == b || l.contains a))/\
  (∀b:Bool,(false || b)=b)/\(∀b:Bool,(true || b)=true)/\(∀b:Bool,(b || false)=b)/\((!true)=false)/\((!false)=true):=by
 repeat' (apply And.intro)
 all_goals first
  | (intros;rfl)
  | (intro l q d o t p af j b;simp only[cmp2,gOf];cases (l[j]?.bind (·.dst))<;>rfl)
  | (intros;simp;done)
theorem aAc :
  (∀n:Nat,n+0=n)/\(∀n:Nat,0+n=n)/\(∀n:Nat,n*1=n)/\(∀n:Nat,0*n=0)/\(∀n:Nat,(n:Int).toNat=n)/\((0:Int).toNat=0)/\
  (∀h:Decidable True,@decide True h=true)/\(∀h:Decidable False,@decide False h=false)/\((!true)=false)/\((!false)=true)/\
  (∀(x y:Value) (l:List Value),(x::l).set 0 y=y::l)/\(∀(x y:Value) (l:List Value) (n:Nat),(x::l).set (n+1) y=x::l.set n y)/\
  (∀(o:Operand) (ev:Operand->Value),#[o].map ev=#[ev o]):=by
 repeat' (apply And.intro)
 all_goals first
  | (intros;rfl)
  | (intros;simp;done)
end Go.Proofs.YtohblmepajhpaaaGreatDoor
