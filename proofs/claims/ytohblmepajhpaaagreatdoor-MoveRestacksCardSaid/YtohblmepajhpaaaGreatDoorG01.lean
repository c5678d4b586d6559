/- Contracts of functions that the law reaches, and plain laws of what they compute. -/
import Derived.Maps.AppendAt
import Derived.Deep.AppendLies
import Derived.Test.YtohblmepajhpaaaGreatDoorRows
import Derived.ProofKit
import Derived.SizedLaws
import Derived.SliceStrings
import Derived.Test.YtohblmepajhpaaaGreatDoorG00
set_option maxRecDepth 100000
namespace Go.Proofs.YtohblmepajhpaaaGreatDoor
theorem aAe :
  lz Tryz.prog 2=some 0/\
  ikOf Tryz.prog 2=some .i64/\
  (Tryz.prog.underlying 2).isSome=true/\
  lz Tryz.prog 3=some 0/\
  ikOf Tryz.prog 3=some .i64/\
  (Tryz.prog.underlying 3).isSome=true/\
  lz Tryz.prog 4=some 0/\
  lz Tryz.prog 5=some 0/\
  ikOf Tryz.prog 5=some .u8/\
  (Tryz.prog.underlying 5).isSome=true/\
  lz Tryz.prog 9=some 0/\
  es Tryz.prog 9=none/\
  isStr Tryz.prog 9=true/\
  lz Tryz.prog 12=some 0/\
  ikOf Tryz.prog 12=some .u64/\
  (Tryz.prog.underlying 12).isSome=true/\
  lz Tryz.prog 15=some 0/\
  lz Tryz.prog 16=some 0/\
  lz Tryz.prog 21=some 0/\
  ikOf Tryz.prog 21=some .i32/\
  (Tryz.prog.underlying 21).isSome=true/\
  lz Tryz.prog 22=some 0/\
  es Tryz.prog 22=some 3/\
  isStr Tryz.prog 22=false/\
  ea Tryz.prog 22=none/\
  lz Tryz.prog 23=some 0/\
  es Tryz.prog 23=some 2/\
  isStr Tryz.prog 23=false/\
  ea Tryz.prog 23=none/\
  lz Tryz.prog 28=some 0/\
  ikOf Tryz.prog 28=some .u64/\
  (Tryz.prog.underlying 28).isSome=true/\
  lz Tryz.prog 29=some 0/\
  es Tryz.prog 29=some 3/\
  isStr Tryz.prog 29=false/\
  ea Tryz.prog 29=none/\
  lz Tryz.prog 30=some 0/\
  es Tryz.prog 30=some 3/\
  isStr Tryz.prog 30=false/\
  ea Tryz.prog 30=none/\
  fo Tryz.prog 31 0=some 0/\
  fo Tryz.prog 31 1=some 1/\
  fo Tryz.prog 31 2=some 2/\
  fo Tryz.prog 31 3=some 3/\
  fo Tryz.prog 31 4=some 4/\
  lz Tryz.prog 31=some 6/\
  fo Tryz.prog 32 0=some 0/\
  fo Tryz.prog 32 1=some 1/\
  fo Tryz.prog 32 2=some 2/\
  fo Tryz.prog 32 3=some 3/\
  fo Tryz.prog 32 4=some 4/\
  lz Tryz.prog 32=some 6/\
  lz Tryz.prog 33=some 0/\
  ikOf Tryz.prog 33=some .i64/\
  (Tryz.prog.underlying 33).isSome=true/\
  lz Tryz.prog 36=some 0/\
  es Tryz.prog 36=some 1/\
  isStr Tryz.prog 36=false/\
  ea Tryz.prog 36=none/\
  fo Tryz.prog 39 0=some 0/\
  fo Tryz.prog 39 1=some 1/\
  fo Tryz.prog 39 2=some 2/\
  lz Tryz.prog 39=some 4/\
  fo Tryz.prog 40 0=some 0/\
  fo Tryz.prog 40 1=some 1/\
  fo Tryz.prog 40 2=some 2/\
  lz Tryz.prog 40=some 4/\
  fo Tryz.prog 42 0=some 0/\
  fo Tryz.prog 42 1=some 1/\
  lz Tryz.prog 42=some 3/\
  fo Tryz.prog 43 0=some 0/\
  fo Tryz.prog 43 1=some 1/\
  lz Tryz.prog 43=some 3/\
  fo Tryz.prog 47 0=some 0/\
  fo Tryz.prog 47 1=some 1/\
  fo Tryz.prog 47 2=some 2/\
  lz Tryz.prog 47=some 4/\
  fo Tryz.prog 48 0=some 0/\
  fo Tryz.prog 48 1=some 1/\
  fo Tryz.prog 48 2=some 2/\
  lz Tryz.prog 48=some 4/\
  fo Tryz.prog 51 0=some 0/\
  fo Tryz.prog 51 1=some 1/\
  lz Tryz.prog 51=some 3/\
  fo Tryz.prog 52 0=some 0/\
  fo Tryz.prog 52 1=some 1/\
  lz Tryz.prog 52=some 3/\
  lz Tryz.prog 53=some 0/\
  es Tryz.prog 53=some 2/\
  isStr Tryz.prog 53=false/\
  ea Tryz.prog 53=none/\
  lz Tryz.prog 74=some 0/\
  lz Tryz.prog 81=some 0/\
  es Tryz.prog 81=some 2/\
  isStr Tryz.prog 81=false/\
  ea Tryz.prog 81=none/\
  lz Tryz.prog 83=some 0/\
  fo Tryz.prog 84 0=some 0/\
  fo Tryz.prog 84 1=some 1/\
  lz Tryz.prog 84=some 3/\
  fo Tryz.prog 85 0=some 0/\
  fo Tryz.prog 85 1=some 1/\
  lz Tryz.prog 85=some 3/\
  fo Tryz.prog 93 0=some 0/\
  fo Tryz.prog 93 1=some 1/\
  fo Tryz.prog 93 2=some 2/\
  lz Tryz.prog 93=some 4/\
  fo Tryz.prog 94 0=some 0/\
  fo Tryz.prog 94 1=some 1/\
  fo Tryz.prog 94 2=some 2/\
  lz Tryz.prog 94=some 4/\
  lz Tryz.prog 102=some 0/\
  es Tryz.prog 102=some 1/\
  isStr Tryz.prog 102=false/\
  ea Tryz.prog 102=none/\
  fo Tryz.prog 108 0=some 0/\
  fo Tryz.prog 108 1=some 1/\
  fo Tryz.prog 108 2=some 2/\
  fo Tryz.prog 108 3=some 3/\
  fo Tryz.prog 108 4=some 4/\
  fo Tryz.prog 108 5=some 5/\
  lz Tryz.prog 108=some 11/\
  fo Tryz.prog 109 0=some 0/\
  fo Tryz.prog 109 1=some 1/\
  fo Tryz.prog 109 2=some 2/\
  fo Tryz.prog 109 3=some 3/\
  fo Tryz.prog 109 4=some 4/\
  fo Tryz.prog 109 5=some 5/\
  lz Tryz.prog 109=some 11/\
  lz Tryz.prog 122=some 0/\
  fo Tryz.prog 124 0=some 0/\
  lz Tryz.prog 124=some 2/\
  fo Tryz.prog 125 0=some 0/\
  lz Tryz.prog 125=some 2/\
  lz Tryz.prog 128=some 0/\
  es Tryz.prog 128=some 1/\
  isStr Tryz.prog 128=false/\
  ea Tryz.prog 128=none/\
  fo Tryz.prog 131 0=some 0/\
  fo Tryz.prog 131 1=some 1/\
  lz Tryz.prog 131=some 3/\
  fo Tryz.prog 132 0=some 0/\
  fo Tryz.prog 132 1=some 1/\
  lz Tryz.prog 132=some 3/\
  lz Tryz.prog 133=some 0/\
  es Tryz.prog 133=some 4/\
  isStr Tryz.prog 133=false/\
  ea Tryz.prog 133=none/\
  lz Tryz.prog 135=some 0/\
  es Tryz.prog 135=some 1/\
  isStr Tryz.prog 135=false/\
  ea Tryz.prog 135=none/\
  lz Tryz.prog 140=some 5/\
  ea Tryz.prog 140=some (4,1)/\
  es Tryz.prog 140=none/\
  fo Tryz.prog 142 0=some 0/\
  fo Tryz.prog 142 1=some 1/\
  fo Tryz.prog 142 2=some 2/\
  fo Tryz.prog 142 3=some 3/\
  lz Tryz.prog 142=some 5/\
  fo Tryz.prog 143 0=some 0/\
  fo Tryz.prog 143 1=some 1/\
  fo Tryz.prog 143 2=some 2/\
  fo Tryz.prog 143 3=some 3/\
  lz Tryz.prog 143=some 5/\
  lz Tryz.prog 146=some 0/\
  es Tryz.prog 146=some 1/\
  isStr Tryz.prog 146=false/\
  ea Tryz.prog 146=none/\
  lz Tryz.prog 147=some 0/\
  es Tryz.prog 147=some 1/\
  isStr Tryz.prog 147=false/\
  ea Tryz.prog 147=none/\
  lz Tryz.prog 153=some 0/\
  lz Tryz.prog 166=some 0/\
  ikOf Tryz.prog 166=some .u64/\
  (Tryz.prog.underlying 166).isSome=true/\
  lz Tryz.prog 167=some 0/\
  es Tryz.prog 167=some 1/\
  isStr Tryz.prog 167=false/\
  ea Tryz.prog 167=none/\
  fo Tryz.prog 171 0=some 0/\
  lz Tryz.prog 171=some 2/\
  fo Tryz.prog 172 0=some 0/\
  lz Tryz.prog 172=some 2/\
  lz Tryz.prog 177=some 0/\
  lz Tryz.prog 179=some 0/\
  fo Tryz.prog 180 0=some 0/\
  fo Tryz.prog 180 1=some 1/\
  lz Tryz.prog 180=some 3/\
  fo Tryz.prog 181 0=some 0/\
  fo Tryz.prog 181 1=some 1/\
  lz Tryz.prog 181=some 3/\
  lz Tryz.prog 188=some 0/\
  es Tryz.prog 188=some 1/\
  isStr Tryz.prog 188=false/\
  ea Tryz.prog 188=none/\
  lz Tryz.prog 190=some 0/\
  es Tryz.prog 190=some 2/\
  isStr Tryz.prog 190=false/\
  ea Tryz.prog 190=none/\
  fo Tryz.prog 192 0=some 0/\
  fo Tryz.prog 192 1=some 1/\
  lz Tryz.prog 192=some 3/\
  fo Tryz.prog 193 0=some 0/\
  fo Tryz.prog 193 1=some 1/\
  lz Tryz.prog 193=some 3/\
  lz Tryz.prog 197=some 0/\
  lz Tryz.prog 198=some 0/\
  lz Tryz.prog 200=some 0/\
  fo Tryz.prog 202 0=some 0/\
  lz Tryz.prog 202=some 2/\
  fo Tryz.prog 203 0=some 0/\
  lz Tryz.prog 203=some 2/\
  lz Tryz.prog 211=some 0/\
  lz Tryz.prog 212=some 0/\
  fo Tryz.prog 213 0=some 0/\
  fo Tryz.prog 213 1=some 1/\
  fo Tryz.prog 213 2=some 2/\
  lz Tryz.prog 213=some 4/\
  fo Tryz.prog 214 0=some 0/\
  fo Tryz.prog 214 1=some 1/\
  fo Tryz.prog 214 2=some 2/\
  lz Tryz.prog 214=some 4/\
  fo Tryz.prog 215 0=some 0/\
  lz Tryz.prog 215=some 2/\
  fo Tryz.prog 216 0=some 0/\
  lz Tryz.prog 216=some 2/\
  lz Tryz.prog 226=some 0/\
  lz Tryz.prog 228=some 0/\
  lz Tryz.prog 229=some 0/\
  es Tryz.prog 229=some 2/\
  isStr Tryz.prog 229=false/\
  ea Tryz.prog 229=none/\
  fo Tryz.prog 230 0=some 0/\
  fo Tryz.prog 230 1=some 1/\
  fo Tryz.prog 230 2=some 2/\
  fo Tryz.prog 230 3=some 3/\
  fo Tryz.prog 230 4=some 4/\
  fo Tryz.prog 230 5=some 5/\
  lz Tryz.prog 230=some 7/\
  fo Tryz.prog 231 0=some 0/\
  fo Tryz.prog 231 1=some 1/\
  fo Tryz.prog 231 2=some 2/\
  fo Tryz.prog 231 3=some 3/\
  fo Tryz.prog 231 4=some 4/\
  fo Tryz.prog 231 5=some 5/\
  lz Tryz.prog 231=some 7/\
  fo Tryz.prog 233 0=some 0/\
  fo Tryz.prog 233 1=some 1/\
  lz Tryz.prog 233=some 3/\
  fo Tryz.prog 234 0=some 0/\
  fo Tryz.prog 234 1=some 1/\
  lz Tryz.prog 234=some 3/\
  lz Tryz.prog 240=some 0/\
  lz Tryz.prog 241=some 0/\
  fo Tryz.prog 242 0=some 0/\
  fo Tryz.prog 242 1=some 1/\
  lz Tryz.prog 242=some 3/\
  fo Tryz.prog 243 0=some 0/\
  fo Tryz.prog 243 1=some 1/\
  lz Tryz.prog 243=some 3/\
  fo Tryz.prog 244 0=some 0/\
  lz Tryz.prog 244=some 3/\
  fo Tryz.prog 245 0=some 0/\
  lz Tryz.prog 245=some 3/\
  lz Tryz.prog 250=some 0/\
  ikOf Tryz.prog 250=some .i64/\
  (Tryz.prog.underlying 250).isSome=true/\
  lz Tryz.prog 257=some 0/\
  ikOf Tryz.prog 257=some .u32/\
  (Tryz.prog.underlying 257).isSome=true/\
  lz Tryz.prog 269=some 0/\
  lz Tryz.prog 271=some 0/\
  fo Tryz.prog 272 0=some 0/\
  fo Tryz.prog 272 1=some 1/\
  lz Tryz.prog 272=some 3/\
  fo Tryz.prog 273 0=some 0/\
  fo Tryz.prog 273 1=some 1/\
  lz Tryz.prog 273=some 3/\
  lz Tryz.prog 276=some 0/\
  fo Tryz.prog 277 0=some 0/\
  fo Tryz.prog 277 1=some 1/\
  fo Tryz.prog 277 2=some 2/\
  fo Tryz.prog 277 3=some 3/\
  fo Tryz.prog 277 4=some 4/\
  fo Tryz.prog 277 5=some 6/\
  lz Tryz.prog 277=some 8/\
  fo Tryz.prog 278 0=some 0/\
  fo Tryz.prog 278 1=some 1/\
  fo Tryz.prog 278 2=some 2/\
  fo Tryz.prog 278 3=some 3/\
  fo Tryz.prog 278 4=some 4/\
  fo Tryz.prog 278 5=some 6/\
  lz Tryz.prog 278=some 8/\
  lz Tryz.prog 288=some 0/\
  lz Tryz.prog 289=some 0/\
  ikOf Tryz.prog 289=some .u64/\
  (Tryz.prog.underlying 289).isSome=true/\
  lz Tryz.prog 293=some 0/\
  lz Tryz.prog 313=some 0/\
  lz Tryz.prog 315=some 0/\
  lz Tryz.prog 321=some 0/\
  es Tryz.prog 321=some 1/\
  isStr Tryz.prog 321=false/\
  ea Tryz.prog 321=none/\
  lz Tryz.prog 326=some 0/\
  lz Tryz.prog 329=some 0/\
  lz Tryz.prog 332=some 257/\
  ea Tryz.prog 332=some (256,1)/\
  es Tryz.prog 332=none/\
  fo Tryz.prog 333 0=some 0/\
  fo Tryz.prog 333 1=some 1/\
  lz Tryz.prog 333=some 3/\
  fo Tryz.prog 334 0=some 0/\
  fo Tryz.prog 334 1=some 1/\
  lz Tryz.prog 334=some 3/\
  lz Tryz.prog 335=some 33/\
  ea Tryz.prog 335=some (16,2)/\
  es Tryz.prog 335=none/\
  lz Tryz.prog 339=some 0/\
  es Tryz.prog 339=some 1/\
  isStr Tryz.prog 339=false/\
  ea Tryz.prog 339=none/\
  fo Tryz.prog 341 0=some 0/\
  fo Tryz.prog 341 1=some 1/\
  lz Tryz.prog 341=some 3/\
  fo Tryz.prog 342 0=some 0/\
  fo Tryz.prog 342 1=some 1/\
  lz Tryz.prog 342=some 3:=
 ⟨by kernel_rfl,by kernel_rfl,by kernel_rfl,by kernel_rfl,by kernel_rfl,by kernel_rfl,by kernel_rfl,by kernel_rfl,by kernel_rfl,by kernel_rfl,by kernel_rfl,by kernel_rfl,by kernel_rfl,by kernel_rfl,by kernel_rfl,by kernel_rfl,by kernel_rfl,by kernel_rfl,by kernel_rfl,by kernel_rfl,by kernel_rfl,by kernel_rfl,by kernel_rfl,by kernel_rfl,by kernel_rfl,by kernel_rfl,by kernel_rfl,by kernel_rfl,by kernel_rfl,by kernel_rfl,by kernel_rfl,by kernel_rfl,by kernel_rfl,by kernel_rfl,by kernel_rfl,by kernel_rfl,by kernel_rfl,by kernel_rfl,by kernel_rfl,by kernel_rfl,by kernel_rfl,by kernel_rfl,by kernel_rfl,by kernel_rfl,by kernel_rfl,by kernel_rfl,by kernel_rfl,by kernel_rfl,by kernel_rfl,by kernel_rfl,by kernel_rfl,by kernel_rfl,by kernel_rfl,by kernel_rfl,by kernel_rfl,by kernel_rfl,by kernel_rfl,by kernel_rfl,by kernel_rfl,by kernel_rfl,by kernel_rfl,by kernel_rfl,by kernel_rfl,by kernel_rfl,by kernel_rfl,by kernel_rfl,by kernel_rfl,by kernel_rfl,by kernel_rfl,by kernel_rfl,by kernel_rfl,by kernel_rfl,by kernel_rfl,by kernel_rfl,by kernel_rfl,by kernel_rfl,by kernel_rfl,by kernel_rfl,by kernel_rfl,by kernel_rfl,by kernel_rfl,by kernel_rfl,by kernel_rfl,by kernel_rfl,by kernel_rfl,by kernel_rfl,by kernel_rfl,by kernel_rfl,by kernel_rfl,by kernel_rfl,by kernel_rfl,by kernel_rfl,by kernel_rfl,by kernel_rfl,by kernel_rfl,by kernel_rfl,by kernel_rfl,by kernel_rfl,by kernel_rfl,by kernel_rfl,by kernel_rfl,by kernel_rfl,by kernel_rfl,by kernel_rfl,by kernel_rfl,by kernel_rfl,by kernel_rfl,by kernel_rfl,by kernel_rfl,by kernel_rfl,by kernel_rfl,by kernel_rfl,by kernel_rfl,by kernel_rfl,by kernel_rfl,by kernel_rfl,by kernel_rfl,by kernel_rfl,by kernel_rfl,by kernel_rfl,by kernel_rfl,by kernel_rfl,by kernel_rfl,by kernel_rfl,by kernel_rfl,by kernel_rfl,by kernel_rfl,by kernel_rfl,by kernel_rfl,by kernel_rfl,by kernel_rfl,by kernel_rfl,by kernel_rfl,by kernel_rfl,by kernel_rfl,by kernel_rfl,by kernel_rfl,by kernel_rfl,by kernel_rfl,by kernel_rfl,by kernel_rfl,by kernel_rfl,by kernel_rfl,by kernel_rfl,by kernel_rfl,by kernel_rfl,by kernel_rfl,by kernel_rfl,by kernel_rfl,by kernel_rfl,by kernel_rfl,by kernel_rfl,by kernel_rfl,by kernel_rfl,by kernel_rfl,by kernel_rfl,by kernel_rfl,by kernel_rfl,by kernel_rfl,by kernel_rfl,by kernel_rfl,by kernel_rfl,by kernel_rfl,by kernel_rfl,by kernel_rfl,by kernel_rfl,by kernel_rfl,by kernel_rfl,by kernel_rfl,by kernel_rfl,by kernel_rfl,by kernel_rfl,by kernel_rfl,by kernel_rfl,by kernel_rfl,by kernel_rfl,by kernel_rfl,by kernel_rfl,by kernel_rfl,by kernel_rfl,by kernel_rfl,by kernel_rfl,by kernel_rfl,by kernel_rfl,by kernel_rfl,by kernel_rfl,by kernel_rfl,by kernel_rfl,by kernel_rfl,by kernel_rfl,by kernel_rfl,by kernel_rfl,by kernel_rfl,by kernel_rfl,by kernel_rfl,by kernel_rfl,by kernel_rfl,by kernel_rfl,by kernel_rfl,by kernel_rfl,by kernel_rfl,by kernel_rfl,by kernel_rfl,by kernel_rfl,by kernel_rfl,by kernel_rfl,by kernel_rfl,by kernel_rfl,by kernel_rfl,by kernel_rfl,by kernel_rfl,by kernel_rfl,by kernel_rfl,by kernel_rfl,by kernel_rfl,by kernel_rfl,by kernel_rfl,by kernel_rfl,by kernel_rfl,by kernel_rfl,by kernel_rfl,by kernel_rfl,by kernel_rfl,by kernel_rfl,by kernel_rfl,by kernel_rfl,by kernel_rfl,by kernel_rfl,by kernel_rfl,by kernel_rfl,by kernel_rfl,by kernel_rfl,by kernel_rfl,by kernel_rfl,by kernel_rfl,by kernel_rfl,by kernel_rfl,by kernel_rfl,by kernel_rfl,by kernel_rfl,by kernel_rfl,by kernel_rfl,by kernel_rfl,by kernel_rfl,by kernel_rfl,by kernel_rfl,by kernel_rfl,by kernel_rfl,by kernel_rfl,by kernel_rfl,by kernel_rfl,by kernel_rfl,by kernel_rfl,by kernel_rfl,by kernel_rfl,by kernel_rfl,by kernel_rfl,by kernel_rfl,by kernel_rfl,by kernel_rfl,by kernel_rfl,by kernel_rfl,by kernel_rfl,by kernel_rfl,by kernel_rfl,by kernel_rfl,by kernel_rfl,by kernel_rfl,by kernel_rfl,by kernel_rfl,by kernel_rfl,by kernel_rfl,by kernel_rfl,by kernel_rfl,by kernel_rfl,by kernel_rfl,by kernel_rfl,by kernel_rfl,by kernel_rfl,by kernel_rfl,by kernel_rfl,by kernel_rfl,by kernel_rfl,by kernel_rfl,by kernel_rfl,by kernel_rfl,by kernel_rfl,by kernel_rfl,by kernel_rfl,by kernel_rfl,by kernel_rfl,by kernel_rfl,by kernel_rfl,by kernel_rfl,by kernel_rfl,by kernel_rfl,by kernel_rfl,by kernel_rfl,by kernel_rfl,by kernel_rfl,by kernel_rfl,by kernel_rfl,by kernel_rfl,by kernel_rfl,by kernel_rfl,by kernel_rfl,by kernel_rfl,by kernel_rfl,by kernel_rfl,by kernel_rfl,by kernel_rfl,by kernel_rfl,by kernel_rfl,by kernel_rfl,by kernel_rfl,by kernel_rfl,by kernel_rfl,by kernel_rfl,by kernel_rfl,by kernel_rfl,by kernel_rfl,by kernel_rfl,by kernel_rfl,by kernel_rfl,by kernel_rfl,by kernel_rfl,by kernel_rfl,by kernel_rfl,by kernel_rfl,by kernel_rfl⟩
theorem mixed:Tryz.prog.follows .mixedOrders=true:=by kernel_rfl
end Go.Proofs.YtohblmepajhpaaaGreatDoor
namespace Go.Proofs.YtohblmepajhpaaaGreatDoor
open Go.RowKit
structure Rd (w:World) (B sz:Nat) (A:Option Addr) (n c:Nat) (xs:List Value):Prop where
 len:xs.length=n*sz
 cap:n<=c
 at_:0<n->∃b o:Nat,A=some ⟨b,o,none⟩/\b<B/\∀j u,xs[j]? = some u->w.cell? ⟨b,o+j,none⟩=some u
theorem Rd.one {w:World}{B n c:Nat}{A:Option Addr}{xs:List Value}(h:Rd w B 1 A n c xs){k:Nat}(hk:k<n) :
  ∃b o u,A=some ⟨b,o,none⟩/\b<B/\xs[k]? = some u/\w.cell? ⟨b,o+k,none⟩=some u:=by
 obtain ⟨b,o,e,hb,hc⟩:=h.at_ (by omega)
 have hl:k<xs.length:=by have:=h.len;omega
 exact ⟨b,o,xs[k],e,hb,List.getElem?_eq_getElem hl,hc k _ (List.getElem?_eq_getElem hl)⟩
theorem Rd.str {w:World}{B n c:Nat}{A:Option Addr}{l:List ByteArray}(h:Rd w B 1 A n c (l.map .string)){k:Nat}(hk:k<n) :
  ∃b o u,A=some ⟨b,o,none⟩/\b<B/\l[k]? = some u/\w.cell? ⟨b,o+k,none⟩=some (.string u):=by
 obtain ⟨b,o,u,e,hb,hx,hc⟩:=h.one hk
 rw[List.getElem?_map] at hx
 cases hl:l[k]? with
 | none=>rw[hl] at hx;cases hx
 | some s=>rw[hl] at hx;cases hx;exact ⟨b,o,s,e,hb,rfl,hc⟩
theorem aCc {u v:ByteArray}(h:u≠v):(u.toList == v.toList)=false:=(Lib.bytes_beq_false_iff u v).2 h
theorem aFl {u v:Int}(h:u≠v):(u == v)=false/\(u != v)=true:=by
 have h1:(u == v)=false:=beq_eq_false_iff_ne.2 h
 exact ⟨h1,by rw[bne,h1];rfl⟩
theorem aAf {a b:Bool}(h:a=b):Ending.returned (.bool a)=.returned (.bool b):=by rw[h]
theorem aSs (a:Addr)(n:Nat):(a.add n).block=a.block:=by unfold Addr.add;split<;>rfl
section
variable {w w':World} {B B' sz n c:Nat} {A:Option Addr} {xs:List Value}
theorem Rd.none_ (w:World)(B sz:Nat):Rd w B sz none 0 0 []:=⟨by simp,Nat.le_refl _,fun h=>absurd h (by omega)⟩
theorem Rd.keep (h:Rd w B sz A n c xs)(hk:∀p:Addr,p.block<B->w'.cell? p=w.cell? p):Rd w' B sz A n c xs:=
 ⟨h.len,h.cap,fun hn=>by
  obtain ⟨b,o,e,hb,hc⟩:=h.at_ hn
  exact ⟨b,o,e,hb,fun j u hu=>(hk _ hb).trans (hc j u hu)⟩⟩
theorem Rd.more (h:Rd w B sz A n c xs)(hB:B<=B'):Rd w B' sz A n c xs:=
 ⟨h.len,h.cap,fun hn=>by obtain ⟨b,o,e,hb,hc⟩:=h.at_ hn;exact ⟨b,o,e,by omega,hc⟩⟩
theorem Rd.below (h:Rd w B sz A n c xs)(hb:Below B w w'):Rd w' B sz A n c xs:=h.keep fun _ hp=>hb.cell hp
theorem Rd.to (h:Rd w B sz A n c xs)(hb:Below B w w')(hB:B<=B'):Rd w' B' sz A n c xs:=(h.below hb).more hB
theorem Rd.drew (h:Rd w B sz A n c xs):Rd w.drew B sz A n c xs:=⟨h.len,h.cap,h.at_⟩
theorem Rd.grown (h:Rd w B sz A n c xs){row:Option Nat}(hg:w.grownBy w' row)(hB:B<=w.heap.size)(hr:∀g,row=some g->B<=g):Rd w' B sz A n c xs:=
 h.keep fun p hp=>World.cell?_of_block (hg.block p.block (by omega) (fun e=>by have:=hr _ e.symm;omega))
theorem Rd.cut (h:Rd w B sz A n c xs){l k:Nat}(hl:l<=k)(hk:k<=n) :
  Rd w B sz (if c=l then A else A.map (·.add (l*sz))) (k-l) (c-l) ((xs.take (k*sz)).drop (l*sz)):=by
 have hc:=h.cap
 refine ⟨by rw[List.length_drop,List.length_take,h.len,Nat.min_eq_left (Nat.mul_le_mul_right _ hk),Nat.sub_mul],by omega,fun hn=>?_⟩
 obtain ⟨b,o,rfl,hb,hcell⟩:=h.at_ (by omega)
 rw[if_neg (by omega)]
 refine ⟨b,o+l*sz,by simp[Addr.add];try (split<;>simp_all),hb,fun j u hu=>?_⟩
 rw[List.getElem?_drop,List.getElem?_take] at hu
 split at hu
 ·rw[Nat.add_assoc];exact hcell _ u hu
 cases hu
theorem Rd.cut1 (h:Rd w B 1 A n c xs){l k:Nat}(hl:l<=k)(hk:k<=n) :
  Rd w B 1 (if c=l then A else A.map (·.add l)) (k-l) (c-l) ((xs.take k).drop l):=by
 have:=h.cut hl hk
 simpa using this
theorem Rd.of_own {base:Nat}{e:TypeId}(h:w.ownsRow base e sz (.slice A n c) n xs)(hc:n<=c):Rd w w.heap.size sz A n c xs:=by
 refine ⟨h.1,hc,fun hn=>?_⟩
 obtain ⟨g,cap,hv,_,hlt⟩:=h.form hn
 have hA:A=some ⟨g,0,none⟩:=by injection hv
 subst hA
 refine ⟨g,0,rfl,hlt,fun j u hu=>?_⟩
 have:=h.cells (g:=g) rfl j u hu
 have hadd:(⟨g,0,none⟩:Addr).add j=⟨g,0+j,none⟩:=by unfold Addr.add;split<;>simp_all
 rwa [hadd] at this
end
theorem aAd {w:World}{base:Nat}{e:TypeId}{sz n:Nat}{v:Value}{xs:List Value}(h:w.ownsRow base e sz v n xs):∃A c,v=.slice A n c/\n<=c:=by
 rcases h.2 with ⟨rfl,rfl⟩ | ⟨g,cap,cur,rfl,_,_,hc,_⟩
 ·exact ⟨none,0,rfl,Nat.le_refl _⟩
 exact ⟨_,cap,rfl,hc⟩
def BoolBelow (b:Bool)(w:World)(e:Ending) (w':World):Prop:=e=.returned (.bool b)/\Below w.heap.size w w'
def isGo (P:Program)(f:FuncId):Bool:=
 match P.funcs[f]? with
 | some fn => !(fn.name == "runtime.NumGoroutine") && fn.body.isSome
 | none=>false
theorem aZa {P:Program}{f:FuncId}(h:isGo P f=true)(args:Array Value)(w:World):(callFunc f args).run P w=.ok (.enter f args) w:=by
 unfold isGo at h
 split at h
 ·rename_i fn hf
  simp only[Bool.and_eq_true,Bool.not_eq_true'] at h
  have hb:¬fn.body=none:=by intro hh;simp[hh] at h
  have hn : ¬ fn.name = "runtime.NumGoroutine" := by have := h.1; simpa using this
  simp[callFunc,hf,hn,hb]
 cases h
section
variable {P:Program} {S:World->Prop} {a:Act} {w:World} {K:Act->World->Prop}
theorem aAi {dst:Option Tmp}{f:Operand}{args:Array Operand}{tys:Array TypeId}{ty:TypeId}{q:Bool}{g:Option (Tmp×Bool)}{F:FuncId}{vs:Array Value}{R:Ending->World->Prop}
  (hg:isGo P F=true) (hc:Calls P F vs w R) (hf:a.eval f=.func (.func F) #[] #[]) (ha:(args.toList.map a.eval).toArray=vs)
  (hK:∀e w',R e w'->∃v,e=.returned v/\S w'/\K (a.put dst v) w') :
  effq P S ⟨q,dst,.call ⟨.value f,args,tys⟩,ty,g⟩ a w K:=by
 intro p af g
 unfold Oper.wp
 have hrun:(execOp a.eval ⟨dst,.call ⟨.value f,args,tys⟩,ty,p,af,g⟩).run P w=.ok (.enter F vs) w:=by
  have ha':args.map a.eval=vs:=by rw[<-ha];apply Array.toList_inj.1;simp
  simp[execOp,resolve,invoke,hf,ha',Deferred.ofValue,aZa hg]
 rw[hrun]
 refine Calls.mono hc fun e w' hR=>?_
 obtain ⟨v,rfl,hS,hk⟩:=hK e w' hR
 exact ⟨hS,hk⟩
theorem aIx (w:World)(base:Nat)(t ty e:TypeId)(i:TypeInfo)(z:Value)(size bytes:Nat)(ht:P.underlying t=some (.slice e))(hi:P.info? e=some i)(hz:i.zero=some z)
  (hsize:i.size=size) (hby:i.bytes=bytes) (hzs:z.cells.size=size) (hsz:0<size)
  (v:Value) (n:Nat) (xs:List Value) (hown:w.ownsRow base e size v n xs)
  (B:Nat) (A:Option Addr) (m c:Nat) (news:List Value) (hr:Rd w B size A m c news) (h1:∀u∈news,u.oneCell'=true)
  (h63:n+m<=maxLen) (hbytes:(n+m)*bytes<=140737488355328) (hbase:base<=w.heap.size) :
  ∃v' w',(Builtin.append_ #[t,t] ty #[v,.slice A m c]).run P w=.ok v' w'/\w'.ownsRow base e size v' (n+m) (xs++news)/\w.grownBy w' v.ownBlock/\
   (v'.ownBlock=v.ownBlock\/v'.ownBlock=some w.heap.size):=by
 rcases A with _ | ad
 ·have hm:m=0:=by
   rcases Nat.eq_zero_or_pos m with h0 | h0
   ·exact h0
   obtain ⟨b,o,h,_⟩:=hr.at_ h0
   cases h
  subst hm
  have hn:news=[]:=List.eq_nil_of_length_eq_zero (by simpa using hr.len)
  subst hn
  refine ⟨v,w,?_,by simpa using hown,World.grownBy.refl w _,.inl rfl⟩
  rcases hown.2 with ⟨rfl,rfl⟩ | ⟨g,cap,cur,rfl,_,_,hnc,_⟩
  ·simp[Builtin.append_,run_underlying ht,sizeOf,typeInfo,hi,Builtin.lenOf,Builtin.firstCells]
  simp[Builtin.append_,run_underlying ht,sizeOf,typeInfo,hi,Builtin.lenOf,Builtin.firstCells,hnc,storeCells]
 have hcells:∀j u,news[j]? = some u->w.cell? (ad.add j)=some u:=by
  intro j u hu
  rcases Nat.eq_zero_or_pos m with h0 | h0
  ·subst h0
   have hn:news=[]:=List.eq_nil_of_length_eq_zero (by simpa using hr.len)
   subst hn
   simp at hu
  obtain ⟨b,o,h,_,hc⟩:=hr.at_ h0
  cases h
  have hadd:(⟨b,o,none⟩:Addr).add j=⟨b,o+j,none⟩:=by unfold Addr.add;split<;>simp_all
  rw[hadd]
  exact hc j u hu
 obtain ⟨v',w',hrun,h2,h3,_,h5⟩:=run_append_own_at (P:=P) w base t ty e i z size bytes ht hi hz hsize hby hzs hsz v n xs hown ad m c news hr.len hcells h1 h63 hbytes hbase
 exact ⟨v',w',hrun,h2,h3,h5⟩
structure Elem (P:Program) (t e:TypeId) (size bytes:Nat):Prop where
 und:P.underlying t=some (.slice e)
 row:∃i z,P.info? e=some i/\i.zero=some z/\i.size=size/\i.bytes=bytes/\z.cells.size=size
 pos:0<size
def elemB (P:Program)(t e:TypeId)(size bytes:Nat):Bool:=
 (match P.underlying t with | some (.slice e')=>Nat.beq e e' | _=>false) &&
 (match P.info? e with | some i=>(match i.zero with | some z=>Nat.beq z.cells.size size | none=>false) && Nat.beq i.size size && Nat.beq i.bytes bytes | none=>false) && Nat.ble 1 size
theorem aBw {P:Program}{t e:TypeId}{size bytes:Nat}(h:elemB P t e size bytes=true):Elem P t e size bytes:=by
 unfold elemB at h
 simp only[Bool.and_eq_true] at h
 obtain ⟨⟨h1,h2⟩,h3⟩:=h
 refine ⟨?_,?_,Nat.le_of_ble_eq_true h3⟩
 ·split at h1
  ·rename_i e' he;rw[he,Nat.eq_of_beq_eq_true h1]
  cases h1
 split at h2
 ·rename_i i hi
  simp only[Bool.and_eq_true] at h2
  obtain ⟨⟨g1,g2⟩,g3⟩:=h2
  split at g1
  ·rename_i z hz
   exact ⟨i,z,hi,hz,Nat.eq_of_beq_eq_true g2,Nat.eq_of_beq_eq_true g3,Nat.eq_of_beq_eq_true g1⟩
  cases g1
 cases h2
theorem aAm {dst:Option Tmp}{s x:Operand}{t ty:TypeId}{q:Bool}{g:Option (Tmp×Bool)}{e:TypeId}{size bytes:Nat}(E:Elem P t e size bytes){base:Nat}
  {v:Value} {n:Nat} {xs:List Value} {B:Nat} {A:Option Addr} {m c:Nat} {news:List Value}
  (hs:a.eval s=v) (hx:a.eval x=.slice A m c) (hown:w.ownsRow base e size v n xs) (hr:Rd w B size A m c news) (h1:∀u∈news,u.oneCell'=true)
  (h63:n+m<=maxLen) (hbytes:(n+m)*bytes<=140737488355328) (hbase:base<=w.heap.size)
  (hK:∀v' w',w'.ownsRow base e size v' (n+m) (xs++news)->w.grownBy w' v.ownBlock->(v'.ownBlock=v.ownBlock\/v'.ownBlock=some w.heap.size)->S w'/\K (a.put dst v') w') :
  effq P S ⟨q,dst,.call ⟨.builtin .append,#[s,x],#[t,t]⟩,ty,g⟩ a w K:=by
 intro p af g
 obtain ⟨i,z,hi,hz,hsz,hby,hzs⟩:=E.row
 obtain ⟨v',w',hrun,h2,h3,h4⟩:=aIx (P:=P) w base t ty e i z size bytes E.und hi hz hsz hby hzs E.pos v n xs hown B A m c news hr h1 h63 hbytes hbase
 unfold Oper.wp execOp
 simp only[resolve,invoke,builtin,Sem.run_bind,Sem.run_pure,Result.andThen_ok,List.map_toArray,List.map_cons,List.map_nil,hs,hx,hrun]
 exact hK v' w' h2 h3 h4
theorem aAp {ops:Array Oper}{rest:List Oper}{o:Oper}{Q:Exit->Act->World->Prop}(hgd:o.guard=none)(s x:Operand)(t:TypeId)
  (ho:o.op=.call { callee:=.builtin .append,args:=#[s,x],argTypes:=#[t,t] }) {e:TypeId} {size bytes:Nat} (E:Elem P t e size bytes) {base:Nat}
  {v:Value} {n:Nat} {xs:List Value} {B:Nat} {A:Option Addr} {m c:Nat} {news:List Value}
  (hs:a.eval s=v) (hx:a.eval x=.slice A m c) (hown:w.ownsRow base e size v n xs) (hr:Rd w B size A m c news) (h1:∀u∈news,u.oneCell'=true)
  (h63:n+m<=maxLen) (hbytes:(n+m)*bytes<=140737488355328) (hbase:base<=w.heap.size)
  (hK:∀v' w',w'.ownsRow base e size v' (n+m) (xs++news)->w.grownBy w' v.ownBlock->(v'.ownBlock=v.ownBlock\/v'.ownBlock=some w.heap.size)->wpList P ops Q rest (a.put o.dst v') w') :
  wpList P ops Q (o::rest) a w:=by
 obtain ⟨i,z,hi,hz,hsz,hby,hzs⟩:=E.row
 refine wpList_plain hgd fun K hK'=>?_
 obtain ⟨v',w',hrun,h2,h3,h4⟩:=aIx (P:=P) w base t o.type e i z size bytes E.und hi hz hsz hby hzs E.pos v n xs hown B A m c news hr h1 h63 hbytes hbase
 unfold Oper.wp execOp
 simp only[ho,resolve,invoke,builtin,Sem.run_bind,Sem.run_pure,Result.andThen_ok,List.map_toArray,List.map_cons,List.map_nil,hs,hx,hrun]
 exact hK' _ _ (hK v' w' h2 h3 h4)
end
theorem aFa (l:List ByteArray):∀u∈l.map Value.string,u.oneCell'=true:=by
 intro u hu
 obtain ⟨s,_,rfl⟩:=List.mem_map.1 hu
 rfl
end Go.Proofs.YtohblmepajhpaaaGreatDoor
namespace Go.Proofs.YtohblmepajhpaaaGreatDoor
open Go.ChangeShapes Go.WideShapes Go.ChangeAt Go.RowKit
theorem Tryz.own:ownKnob Tryz.prog.godebug=none:=by kernel_rfl
theorem Tryz.laidOut:laidOutB Tryz.prog=true:=by kernel_rfl
section
variable {H:Type} {enc:TypeId×Value->H}
theorem aIn {P:Program}(hl:laidOutB P=true) {W W':World}(hb:Below W.heap.size W W'):∀{ts:List TypeId} {vs:List Value} {ds:List (DataW H)} {ps:List MemPlace},
  (ts.all fun t=>P.readableRec t && decide (t<P.types.size))=true->
  DataW.TrodAll enc P W 0 (fun _=>true) true ts vs ds ps->(∀x∈ps,x.block<W.heap.size)->
  DataW.TrodAll enc P W' 0 (fun b=>decide (b<W.heap.size)) true ts vs ds ps
 | [],vs,ds,ps,_,h,_=>by
  obtain ⟨rfl,rfl,rfl⟩:=trodAll_nil h
  exact trodAll_mk0
 | t::ts,vs,ds,ps,hr,h,hlt=>by
  obtain ⟨v,vs',d,ds',p,q,rfl,rfl,rfl,hd,hrest⟩:=trodAll_cons h
  simp only[List.all_cons,Bool.and_eq_true,decide_eq_true_eq] at hr
  obtain ⟨⟨h1,h2⟩,h3⟩:=hr
  exact ⟨p,q,Below.trod hl h1 h2 hd hb (fun x hx=>hlt x (by simp[hx])),aIn hl hb h3 hrest (fun x hx=>hlt x (by simp[hx])),rfl⟩
theorem bCp {f:Func}{s:ChangeSpec}{W:World}{args:Array Value}{ds:List (DataW H)}{p:List MemPlace}
  (hW:DataW.Whole enc Tryz.prog f.params.toList s.vars false W args.toList ds [] (p++[]))
  (hA:DataW.TrodAll enc Tryz.prog W 0 (fun _=>true) true f.params.toList args.toList ds p)
  (hv:s.vars=[]) (hrt:f.resultTypes=#[4]) (hts:(f.params.toList.all fun t=>Tryz.prog.readableRec t && decide (t<Tryz.prog.types.size))=true)
  (er:(s.fn H (ds++[])).results=[.lit (.bool true)]) (ea:(s.fn H (ds++[])).args=ds) (ev:(s.fn H (ds++[])).vars=[])
  {e:Ending} {W':World} (h:BoolBelow true W e W') :
  ∃v,e=.returned v/\s.post enc Tryz.prog f false true false false W args v W':=by
 obtain ⟨rfl,hb⟩:=h
 refine ⟨_,rfl,_,_,_,[]++[],p,[],hW,?_,?_,?_,hb.frame _,fun h=>by cases h⟩
 ·rw[er,hrt];exact trodAll_mk1 (shut_bool (by kernel_rfl) true)
 ·rw[ea]
  exact aIn Tryz.laidOut hb hts hA (fun x hx=>by simpa using hW.lt x (by simp[hx]))
 rw[ev,hv];rfl
end
end Go.Proofs.YtohblmepajhpaaaGreatDoor
namespace Go.Proofs.YtohblmepajhpaaaGreatDoor
open Go.RowKit
structure MV where
 old:Int
 A:Option Addr
 c:Nat
 new:List Int
def MV.cells (m:MV):List Value:=[.int .i64 m.old,.slice m.A m.new.length m.c]
def nexts (ms:List MV)(k:Int):List Int:=ms.flatMap fun m=>if m.old=k then m.new else []
def obsM (ms:List MV)(k:Int):Bool:=ms.any fun m=>decide (m.old=k)
def okM (n:Int)(m:MV):Bool:=decide (0<=m.old) && decide (m.old<n) && decide (m.new.length<=2000) && m.new.all fun x=>decide (m.old<x) && decide (x<n)
def rightM (n:Int)(ms:List MV):Bool:=ms.all (okM n)
def fewM (ms:List MV):Bool:=ms.all (fun m=>decide (m.new.length<=12)) && decide (ms.length<=2100)
inductive Reach (ms:List MV) (i:Int):Int->Prop
 | refl:Reach ms i i
 | step {k x:Int}:Reach ms i k->x∈nexts ms k->k<x->Reach ms i x
structure FinalIs (ms:List MV) (i:Int) (l:List Int):Prop where
 sorted:l.Pairwise (·<·)
 mem:∀x,x∈l↔Reach ms i x/\obsM ms x=false
structure NextIs (ms:List MV) (i:Int) (l:List Int):Prop where
 sorted:l.Pairwise (·<·)
 mem:∀x,x∈l↔x∈nexts ms i
theorem aOh:∀{l l':List Int},l.Pairwise (·<·)->l'.Pairwise (·<·)->(∀x,x∈l↔x∈l')->l=l'
 | [],[],_,_,_=>rfl
 | [],b::r,_,_,h=>by have:=(h b).2 (by simp);cases this
 | a::r,[],_,_,h=>by have:=(h a).1 (by simp);cases this
 | a::r,b::r',h1,h2,h=>by
  rw[List.pairwise_cons] at h1 h2
  have hab:a=b:=by
   rcases List.mem_cons.1 ((h a).1 (by simp)) with e | e
   ·exact e
   rcases List.mem_cons.1 ((h b).2 (by simp)) with e' | e'
   ·exact e'.symm
   have:=h1.1 _ e';have:=h2.1 _ e;omega
  subst hab
  congr 1
  refine aOh h1.2 h2.2 fun x=>⟨fun hx=>?_,fun hx=>?_⟩
  ·rcases List.mem_cons.1 ((h x).1 (by simp[hx])) with e | e
   ·subst e;have:=h1.1 _ hx;omega
   exact e
  rcases List.mem_cons.1 ((h x).2 (by simp[hx])) with e | e
  ·subst e;have:=h2.1 _ hx;omega
  exact e
theorem FinalIs.uniq {ms:List MV}{i:Int} {l l':List Int}(h:FinalIs ms i l) (h':FinalIs ms i l'):l=l':=
 aOh h.sorted h'.sorted fun x=>by rw[h.mem,h'.mem]
theorem aRs {ms:List MV}{k:Int}(h:obsM ms k=false):nexts ms k=[]:=by
 unfold obsM at h;unfold nexts
 rw[List.any_eq_false] at h
 rw[List.flatMap_eq_nil_iff]
 intro m hm
 have:=h m hm
 rw[if_neg (by simpa using this)]
theorem aNu (ms:List MV)(m:MV)(k:Int):nexts (ms++[m]) k=if m.old=k then nexts ms k++m.new else nexts ms k:=by
 unfold nexts;rw[List.flatMap_append];split<;>simp_all
theorem aLg (ms:List MV)(m:MV)(k:Int):obsM (ms++[m]) k=(obsM ms k || decide (m.old=k)):=by
 unfold obsM;simp
theorem Reach.le {ms:List MV}{i x:Int}(h:Reach ms i x):i<=x:=by
 induction h with
 | refl=>omega
 | step _ _ hlt ih=>omega
theorem Reach.head {ms:List MV}{i x:Int}(h:Reach ms i x):x=i\/∃y,y∈nexts ms i/\i<y/\Reach ms y x:=by
 induction h with
 | refl=>exact .inl rfl
 | @step k x hk hx hlt ih=>
  right
  rcases ih with rfl | ⟨y,hy,h1,h2⟩
  ·exact ⟨x,hx,hlt,.refl⟩
  exact ⟨y,hy,h1,.step h2 hx hlt⟩
theorem FinalIs.self {ms:List MV}{i:Int}(h:obsM ms i=false):FinalIs ms i [i]:=by
 refine ⟨by simp,fun x=>?_⟩
 rw[List.mem_singleton]
 constructor
 ·rintro rfl;exact ⟨.refl,h⟩
 rintro ⟨hr,_⟩
 rcases hr.head with e | ⟨y,hy,_⟩
 ·exact e
 rw[aRs h] at hy;cases hy
theorem aUb {ms:List MV}{i:Int}{S:Int->Prop}(h0:S i)(hr:∀x,S x->Reach ms i x)(hc:∀k x,S k->x∈nexts ms k->k<x->S x)(x:Int):Reach ms i x↔S x:=by
 refine ⟨fun h=>?_,hr x⟩
 induction h with
 | refl=>exact h0
 | step _ hx hlt ih=>exact hc _ _ ih hx hlt
theorem aDa:∀{l u:List Int},l.Nodup->(∀x∈l,x∈u)->l.length<=u.length
 | [],u,_,_=>by simp
 | a::l,u,hn,hs=>by
  rw[List.nodup_cons] at hn
  have ha:a∈u:=hs a (by simp)
  have h1:=aDa (l:=l) (u:=u.erase a) hn.2 fun x hx=>by
   have hne:x≠a:=fun e=>hn.1 (e▸hx)
   exact (List.mem_erase_of_ne hne).2 (hs x (by simp[hx]))
  rw[List.length_erase_of_mem ha] at h1
  have:0<u.length:=List.length_pos_of_mem ha
  simp only[List.length_cons];omega
def univ (ms:List MV)(i:Int):List Int:=i::ms.flatMap (·.new)
theorem aEo {ms:List MV}{i k x:Int}(h:x∈nexts ms k):x∈univ ms i:=by
 unfold nexts at h;unfold univ
 rw[List.mem_flatMap] at h
 obtain ⟨m,hm,hx⟩:=h
 split at hx
 ·exact List.mem_cons_of_mem _ (List.mem_flatMap.2 ⟨m,hm,hx⟩)
 cases hx
theorem bFv {ms:List MV}(h:∀m∈ms,m.new.length<=12):(ms.flatMap (·.new)).length<=ms.length*12:=by
 induction ms with
 | nil=>simp
 | cons m ms ih=>
  rw[List.flatMap_cons,List.length_append,List.length_cons,Nat.succ_mul]
  have:=ih fun m hm=>h m (by simp[hm]);have:=h m (by simp);omega
theorem aKz {ms:List MV}(k:Int)(h:∀m∈ms,m.new.length<=12):(nexts ms k).length<=ms.length*12:=by
 unfold nexts
 induction ms with
 | nil=>simp
 | cons m ms ih=>
  rw[List.flatMap_cons,List.length_append,List.length_cons,Nat.succ_mul]
  have:=ih fun m hm=>h m (by simp[hm])
  have:=h m (by simp)
  split
  ·omega
  rw[List.length_nil];omega
theorem aMr {ms:List MV}(h:fewM ms=true):(∀m∈ms,m.new.length<=12)/\ms.length<=2100:=by
 simp only[fewM,Bool.and_eq_true,List.all_eq_true,decide_eq_true_eq] at h
 exact h
theorem aPh {ms:List MV}{i:Int}(h:fewM ms=true):(univ ms i).length<=25201:=by
 obtain ⟨h1,h2⟩:=aMr h
 have:=bFv h1
 simp only[univ,List.length_cons];omega
structure PlaceIs (l:List Int) (v:Int) (k:Nat):Prop where
 le:k<=l.length
 after:∀j x,k<=j->l[j]? = some x->v<x
 at_:k=0\/∃x,l[k-1]? = some x/\x<=v
structure AddIs (l:List Int) (v:Int) (l':List Int):Prop where
 len:l'.length<=l.length+1
 mem:∀x,x∈l'↔x∈l\/x=v
 sorted:l.Pairwise (·<·)->l'.Pairwise (·<·)
theorem bFm {l:List Int}{v:Int}(h:v∈l):AddIs l v l:=
 ⟨by omega,fun x=>⟨fun hx=>.inl hx,fun hx=>hx.elim id fun e=>e▸h⟩,id⟩
theorem aFi {l:List Int}{v:Int}{k:Nat}(hv:v∉l)(h:PlaceIs l v k):AddIs l v (l.take k++[v]++l.drop k):=by
 refine ⟨by simp;have:=h.le;omega,fun x=>?_,fun hs=>?_⟩
 ·simp only[List.mem_append,List.mem_singleton]
  have:x∈l↔x∈l.take k\/x∈l.drop k:=by rw[<-List.mem_append,List.take_append_drop]
  rw[this]
  constructor
  ·rintro ((h | h) | h)<;>simp[h]
  rintro ((h | h) | h)<;>simp[h]
 rw[List.pairwise_append,List.pairwise_append]
 have hlt:∀x∈l.take k,x<v:=by
  intro x hx
  rcases h.at_ with rfl | ⟨y,hy,hyv⟩
  ·simp at hx
  have hne:y≠v:=fun e=>hv (e▸List.mem_of_getElem? hy)
  obtain ⟨j,hj⟩:=List.getElem?_of_mem hx
  rw[List.getElem?_take] at hj
  split at hj
  ·rename_i hjk
   by_cases e:j=k-1
   ·subst e;rw[hy] at hj;cases hj;omega
   have h1:k-1<l.length:=(List.getElem?_eq_some_iff.1 hy).1
   have h2:j<l.length:=(List.getElem?_eq_some_iff.1 hj).1
   have:=List.pairwise_iff_getElem.1 hs j (k-1) h2 h1 (by omega)
   rw[(List.getElem?_eq_some_iff.1 hj).2,(List.getElem?_eq_some_iff.1 hy).2] at this
   omega
  cases hj
 have hgt:∀x∈l.drop k,v<x:=by
  intro x hx
  obtain ⟨j,hj⟩:=List.getElem?_of_mem hx
  rw[List.getElem?_drop] at hj
  exact h.after _ _ (by omega) hj
 refine ⟨⟨hs.sublist (List.take_sublist _ _),by simp,fun a ha b hb=>?_⟩,hs.sublist (List.drop_sublist _ _),fun a ha b hb=>?_⟩
 ·rw[List.mem_singleton] at hb;subst hb;exact hlt a ha
 rcases List.mem_append.1 ha with ha | ha
 ·have:=hlt a ha;have:=hgt b hb;omega
 rw[List.mem_singleton] at ha;subst ha;exact hgt b hb
structure FinInv (ms:List MV) (i:Int) (done todo:List Int):Prop where
 nd:(done++todo).Nodup
 univ:∀x∈done++todo,x∈univ ms i
 start:i∈done++todo
 reach:∀x∈done++todo,Reach ms i x
 closed:∀k∈done,∀x∈nexts ms k,k<x->x∈done++todo
structure FinMid (ms:List MV) (i:Int) (done:List Int) (k:Int) (t:Nat) (todo:List Int):Prop where
 nd:((done++[k])++todo).Nodup
 univ:∀x∈(done++[k])++todo,x∈univ ms i
 start:i∈(done++[k])++todo
 reach:∀x∈(done++[k])++todo,Reach ms i x
 closed:∀k'∈done,∀x∈nexts ms k',k'<x->x∈(done++[k])++todo
 part:∀x∈(nexts ms k).take t,k<x->x∈(done++[k])++todo
theorem FinInv.init (ms:List MV)(i:Int):FinInv ms i [] [i]:=
 ⟨by simp,by simp[Proofs.YtohblmepajhpaaaGreatDoor.univ],by simp,by simp only[List.nil_append,List.mem_singleton];rintro x rfl;exact .refl,by simp⟩
theorem aGf {done todo:List Int}{k x:Int}:x∈done++(todo++[k])↔x∈(done++[k])++todo:=by
 simp only[List.mem_append,List.mem_singleton]
 constructor
 ·rintro (h | h | h)<;>simp[h]
 rintro ((h | h) | h)<;>simp[h]
theorem aUy {done todo:List Int}{k:Int}(h:(done++(todo++[k])).Nodup):((done++[k])++todo).Nodup:=by
 refine (List.Perm.nodup_iff ?_).1 h
 rw[List.append_assoc]
 exact List.Perm.append_left _ List.perm_append_comm
theorem FinInv.mid {ms:List MV}{i:Int}{done todo:List Int}{k:Int}(h:FinInv ms i done (todo++[k])):FinMid ms i done k 0 todo:=
 ⟨aUy h.nd,fun x hx=>h.univ x (aGf.2 hx),aGf.1 h.start,fun x hx=>h.reach x (aGf.2 hx),fun k' hk' x hx hl=>aGf.1 (h.closed k' hk' x hx hl),by simp⟩
theorem FinMid.stop {ms:List MV}{i:Int}{done todo:List Int}{k:Int}{t:Nat}(h:FinMid ms i done k t todo)(ht:(nexts ms k).length<=t):FinInv ms i (done++[k]) todo:=by
 refine ⟨h.nd,h.univ,h.start,h.reach,fun k' hk' x hx hl=>?_⟩
 rcases List.mem_append.1 hk' with h1 | h1
 ·exact h.closed k' h1 x hx hl
 rw[List.mem_singleton] at h1;subst h1
 refine h.part x ?_ hl
 rw[List.take_of_length_le ht];exact hx
theorem FinMid.skip {ms:List MV}{i:Int}{done todo:List Int}{k x:Int}{t:Nat}(h:FinMid ms i done k t todo)(hx:(nexts ms k)[t]? = some x)(hs:k<x->x∈(done++[k])++todo):FinMid ms i done k (t+1) todo:=by
 refine ⟨h.nd,h.univ,h.start,h.reach,h.closed,fun y hy hl=>?_⟩
 obtain ⟨ht,rfl⟩:=List.getElem?_eq_some_iff.1 hx
 rw[List.take_succ_eq_append_getElem ht,List.mem_append,List.mem_singleton] at hy
 rcases hy with hy | rfl
 ·exact h.part y hy hl
 exact hs hl
theorem FinMid.push {ms:List MV}{i:Int}{done todo:List Int}{k x:Int}{t:Nat}(h:FinMid ms i done k t todo)(hx:(nexts ms k)[t]? = some x)(hl:k<x)(hn:x∉(done++[k])++todo):FinMid ms i done k (t+1) (todo++[x]):=by
 have hxm:x∈nexts ms k:=List.mem_of_getElem? hx
 have up:∀y,y∈(done++[k])++todo->y∈(done++[k])++(todo++[x]):=fun y hy=>by rw[<-List.append_assoc];exact List.mem_append_left _ hy
 have dn:∀y,y∈(done++[k])++(todo++[x])->y∈(done++[k])++todo\/y=x:=fun y hy=>by rw[<-List.append_assoc,List.mem_append,List.mem_singleton] at hy;exact hy
 refine ⟨?_,fun y hy=>?_,up _ h.start,fun y hy=>?_,fun k' hk' y hy hl'=>up _ (h.closed k' hk' y hy hl'),fun y hy hl'=>?_⟩
 ·rw[<-List.append_assoc,List.nodup_append]
  exact ⟨h.nd,by simp,fun a ha b hb e=>hn (by rw[List.mem_singleton] at hb;subst hb;subst e;exact ha)⟩
 ·rcases dn y hy with hy | rfl
  ·exact h.univ y hy
  exact aEo hxm
 ·rcases dn y hy with hy | rfl
  ·exact h.reach y hy
  exact .step (h.reach k (by simp)) hxm hl
 obtain ⟨ht,rfl⟩:=List.getElem?_eq_some_iff.1 hx
 rw[List.take_succ_eq_append_getElem ht,List.mem_append,List.mem_singleton] at hy
 rcases hy with hy | rfl
 ·exact up _ (h.part y hy hl')
 simp
theorem FinInv.le {ms:List MV}{i:Int}{done todo:List Int}(h:FinInv ms i done todo)(hf:fewM ms=true):done.length+todo.length<=25201:=by
 have:=aDa h.nd h.univ;have:=aPh (i:=i) hf;rw[List.length_append] at *;omega
theorem FinMid.le {ms:List MV}{i:Int}{done todo:List Int}{k:Int}{t:Nat}(h:FinMid ms i done k t todo)(hf:fewM ms=true):done.length+1+todo.length<=25201:=by
 have:=aDa h.nd h.univ;have:=aPh (i:=i) hf;simp only[List.length_append,List.length_singleton] at *;omega
theorem FinInv.final {ms:List MV}{i:Int}{done:List Int}(h:FinInv ms i done [])(x:Int):x∈done.filter (fun x=>!obsM ms x)↔Reach ms i x/\obsM ms x=false:=by
 have e:=aUb (S:=fun x=>x∈done) (by simpa using h.start) (fun x hx=>h.reach x (by simpa using hx)) (fun k x hk hx hl=>by simpa using h.closed k hk x hx hl) x
 rw[List.mem_filter,e];simp
theorem FinInv.nodupF {ms:List MV}{i:Int}{done todo:List Int}(h:FinInv ms i done todo):(done.filter (fun x=>!obsM ms x)).Nodup:=
 (List.nodup_append.1 h.nd).1.sublist List.filter_sublist
theorem aTa {ms:List MV}{i:Int}{done ss:List Int}(h:FinInv ms i done [])(hp:ss.Perm (done.filter (fun x=>!obsM ms x))):FinalIs ms i (ss.mergeSort fun x y=>decide (x<=y)):=by
 have hp2:=(List.mergeSort_perm ss fun x y=>decide (x<=y)).trans hp
 refine ⟨?_,fun x=>by rw[hp2.mem_iff,h.final]⟩
 have h1:(ss.mergeSort fun x y=>decide (x<=y)).Pairwise fun a b=>decide (a<=b)=true:=
  List.pairwise_mergeSort (fun a b c h1 h2=>by simp only[decide_eq_true_eq] at *;omega) (fun a b=>by simp only[Bool.or_eq_true,decide_eq_true_eq];omega) ss
 have h2:(ss.mergeSort fun x y=>decide (x<=y)).Nodup:=hp2.nodup_iff.2 h.nodupF
 exact List.Pairwise.imp₂ (fun a b h1 h2=>by simp only[decide_eq_true_eq] at h1;omega) h1 h2
structure RefInv (ms:List MV) (i:Int) (seen todo out:List Int):Prop where
 start:∀x∈nexts ms i,i<x->x∈seen\/x∈todo
 gt:∀x∈seen,i<x
 reach:∀x∈seen,Reach ms i x
 todoR:∀x∈todo,i<x->Reach ms i x
 closed:∀k∈seen,∀x∈nexts ms k,k<x->x∈seen\/x∈todo
 nd:seen.Nodup
 univ:∀x∈seen,x∈univ ms i
 todoU:∀x∈todo,x∈Proofs.YtohblmepajhpaaaGreatDoor.univ ms i
 sorted:out.Pairwise (·<·)
 out:∀x,x∈out↔x∈seen/\obsM ms x=false
theorem RefInv.init {ms:List MV}{i:Int}{l:List Int}(h:NextIs ms i l):RefInv ms i [] l []:=
 ⟨fun x hx _=>.inr ((h.mem x).2 hx),by simp,by simp,fun x hx hl=>.step .refl ((h.mem x).1 hx) hl,by simp,by simp,by simp,fun x hx=>aEo ((h.mem x).1 hx),by simp,by simp⟩
theorem RefInv.skip {ms:List MV}{i x:Int}{seen todo out:List Int}(h:RefInv ms i seen (x::todo) out)(hx:x<=i\/x∈seen):RefInv ms i seen todo out:=by
 have aux:∀y,i<y->y∈seen\/y∈x::todo->y∈seen\/y∈todo:=by
  intro y hy hh
  rcases hh with hh | hh
  ·exact .inl hh
  rcases List.mem_cons.1 hh with rfl | hh
  ·rcases hx with hx | hx
   ·omega
   exact .inl hx
  exact .inr hh
 exact ⟨fun y hy hl=>aux y hl (h.start y hy hl),h.gt,h.reach,fun y hy=>h.todoR y (by simp[hy]),fun k hk y hy hl=>aux y (by have:=h.gt k hk;omega) (h.closed k hk y hy hl),h.nd,h.univ,fun y hy=>h.todoU y (by simp[hy]),h.sorted,h.out⟩
theorem RefInv.leaf {ms:List MV}{i x:Int} {seen todo out out':List Int}(h:RefInv ms i seen (x::todo) out)(h1:i<x)(h2:x∉seen)(ho:obsM ms x=false)(ha:AddIs out x out'):RefInv ms i (seen++[x]) todo out':=by
 have aux:∀y,y∈seen\/y∈x::todo->y∈seen++[x]\/y∈todo:=by
  intro y hh
  rw[List.mem_append,List.mem_singleton]
  rcases hh with hh | hh
  ·exact .inl (.inl hh)
  rcases List.mem_cons.1 hh with rfl | hh
  ·exact .inl (.inr rfl)
  exact .inr hh
 have mem:∀{p:Int->Prop},(∀y∈seen,p y)->p x->∀y∈seen++[x],p y:=by
  intro p hp hx y hy
  rw[List.mem_append,List.mem_singleton] at hy
  rcases hy with hy | rfl
  ·exact hp y hy
  exact hx
 refine ⟨fun y hy hl=>aux y (h.start y hy hl),mem h.gt h1,mem h.reach (h.todoR x (by simp) h1),fun y hy=>h.todoR y (by simp[hy]),fun k hk=>?_,?_,mem h.univ (h.todoU x (by simp)),fun y hy=>h.todoU y (by simp[hy]),ha.sorted h.sorted,fun y=>?_⟩
 ·rw[List.mem_append,List.mem_singleton] at hk
  rcases hk with hk | rfl
  ·exact fun y hy hl=>aux y (h.closed k hk y hy hl)
  intro y hy;rw[aRs ho] at hy;cases hy
 ·rw[List.nodup_append]
  exact ⟨h.nd,by simp,fun a haa b hb e=>h2 (by rw[List.mem_singleton] at hb;subst hb;subst e;exact haa)⟩
 rw[ha.mem,h.out,List.mem_append,List.mem_singleton]
 constructor
 ·rintro (⟨h1,h2⟩ | rfl)
  ·exact ⟨.inl h1,h2⟩
  exact ⟨.inr rfl,ho⟩
 rintro ⟨h1 | rfl,h2⟩
 ·exact .inl ⟨h1,h2⟩
 exact .inr rfl
structure RefMid (ms:List MV) (i:Int) (seen:List Int) (x:Int) (more:List Int) (t:Nat) (todo out:List Int):Prop where
 start:∀x∈nexts ms i,i<x->x∈seen\/x∈todo
 gt:∀x∈seen,i<x
 mem:x∈seen
 reach:∀x∈seen,Reach ms i x
 todoR:∀x∈todo,i<x->Reach ms i x
 closed:∀k∈seen,k≠x->∀x∈nexts ms k,k<x->x∈seen\/x∈todo
 part:∀y∈more.take t,x<y->y∈seen\/y∈todo
 nd:seen.Nodup
 univ:∀x∈seen,x∈univ ms i
 todoU:∀x∈todo,x∈Proofs.YtohblmepajhpaaaGreatDoor.univ ms i
 sorted:out.Pairwise (·<·)
 out:∀x,x∈out↔x∈seen/\obsM ms x=false
theorem RefInv.mid {ms:List MV}{i x:Int}{seen todo out more:List Int}(h:RefInv ms i seen (x::todo) out)(h1:i<x)(h2:x∉seen)(ho:obsM ms x=true):RefMid ms i (seen++[x]) x more 0 todo out:=by
 have aux:∀y,y∈seen\/y∈x::todo->y∈seen++[x]\/y∈todo:=by
  intro y hh
  rw[List.mem_append,List.mem_singleton]
  rcases hh with hh | hh
  ·exact .inl (.inl hh)
  rcases List.mem_cons.1 hh with rfl | hh
  ·exact .inl (.inr rfl)
  exact .inr hh
 have mem:∀{p:Int->Prop},(∀y∈seen,p y)->p x->∀y∈seen++[x],p y:=by
  intro p hp hx y hy
  rw[List.mem_append,List.mem_singleton] at hy
  rcases hy with hy | rfl
  ·exact hp y hy
  exact hx
 refine ⟨fun y hy hl=>aux y (h.start y hy hl),mem h.gt h1,by simp,mem h.reach (h.todoR x (by simp) h1),fun y hy=>h.todoR y (by simp[hy]),fun k hk hne y hy hl=>?_,by simp,?_,mem h.univ (h.todoU x (by simp)),fun y hy=>h.todoU y (by simp[hy]),h.sorted,fun y=>?_⟩
 ·rw[List.mem_append,List.mem_singleton] at hk
  rcases hk with hk | rfl
  ·exact aux y (h.closed k hk y hy hl)
  exact absurd rfl hne
 ·rw[List.nodup_append]
  exact ⟨h.nd,by simp,fun a haa b hb e=>h2 (by rw[List.mem_singleton] at hb;subst hb;subst e;exact haa)⟩
 rw[h.out,List.mem_append,List.mem_singleton]
 constructor
 ·rintro ⟨h1,h2⟩;exact ⟨.inl h1,h2⟩
 rintro ⟨h1 | rfl,h3⟩
 ·exact ⟨h1,h3⟩
 rw[ho] at h3;cases h3
theorem RefMid.skip {ms:List MV}{i x y:Int}{seen todo out more:List Int}{t:Nat}(h:RefMid ms i seen x more t todo out)(hy:more[t]? = some y)(hle:¬x<y):RefMid ms i seen x more (t+1) todo out:=by
 refine ⟨h.start,h.gt,h.mem,h.reach,h.todoR,h.closed,fun z hz hl=>?_,h.nd,h.univ,h.todoU,h.sorted,h.out⟩
 obtain ⟨ht,rfl⟩:=List.getElem?_eq_some_iff.1 hy
 rw[List.take_succ_eq_append_getElem ht,List.mem_append,List.mem_singleton] at hz
 rcases hz with hz | rfl
 ·exact h.part z hz hl
 exact absurd hl hle
theorem RefMid.push {ms:List MV}{i x y:Int}{seen todo out more:List Int}{t:Nat}(h:RefMid ms i seen x more t todo out)(hm:NextIs ms x more)(hy:more[t]? = some y)(hlt:x<y):RefMid ms i seen x more (t+1) (todo++[y]) out:=by
 have up:∀z,z∈seen\/z∈todo->z∈seen\/z∈todo++[y]:=fun z hz=>hz.imp id fun h=>List.mem_append_left _ h
 have hyn:y∈nexts ms x:=(hm.mem y).1 (List.mem_of_getElem? hy)
 have mem:∀{p:Int->Prop},(∀y∈todo,p y)->p y->∀z∈todo++[y],p z:=by
  intro p hp hx z hz
  rw[List.mem_append,List.mem_singleton] at hz
  rcases hz with hz | rfl
  ·exact hp z hz
  exact hx
 refine ⟨fun z hz hl=>up z (h.start z hz hl),h.gt,h.mem,h.reach,mem h.todoR fun _=>.step (h.reach x h.mem) hyn hlt,fun k hk hne z hz hl=>up z (h.closed k hk hne z hz hl),fun z hz hl=>?_,h.nd,h.univ,mem h.todoU (aEo hyn),h.sorted,h.out⟩
 obtain ⟨ht,rfl⟩:=List.getElem?_eq_some_iff.1 hy
 rw[List.take_succ_eq_append_getElem ht,List.mem_append,List.mem_singleton] at hz
 rcases hz with hz | rfl
 ·exact up z (h.part z hz hl)
 exact .inr (by simp)
theorem RefMid.stop {ms:List MV}{i x:Int}{seen todo out more:List Int}{t:Nat}(h:RefMid ms i seen x more t todo out)(hm:NextIs ms x more)(ht:more.length<=t):RefInv ms i seen todo out:=by
 refine ⟨h.start,h.gt,h.reach,h.todoR,fun k hk y hy hl=>?_,h.nd,h.univ,h.todoU,h.sorted,h.out⟩
 by_cases e:k=x
 ·subst e
  refine h.part y ?_ hl
  rw[List.take_of_length_le ht]
  exact (hm.mem y).2 hy
 exact h.closed k hk e y hy hl
theorem RefInv.final {ms:List MV}{i:Int}{seen out:List Int}(h:RefInv ms i seen [] out)(hi:obsM ms i=true):FinalIs ms i out:=by
 refine ⟨h.sorted,fun x=>?_⟩
 have e:=aUb (S:=fun x=>x=i\/x∈seen) (.inl rfl) (fun x hx=>hx.elim (fun e=>e▸.refl) (h.reach x)) (fun k x hk hx hl=>by
  rcases hk with rfl | hk
  ·exact .inr ((h.start x hx hl).resolve_right (by simp))
  exact .inr ((h.closed k hk x hx hl).resolve_right (by simp))) x
 rw[h.out,e]
 constructor
 ·rintro ⟨h1,h2⟩;exact ⟨.inr h1,h2⟩
 rintro ⟨rfl | h1,h2⟩
 ·rw[hi] at h2;cases h2
 exact ⟨h1,h2⟩
theorem RefInv.seen_le {ms:List MV}{i:Int}{seen todo out:List Int}(h:RefInv ms i seen todo out)(hf:fewM ms=true):seen.length<=25201:=by
 have:=aDa h.nd h.univ;have:=aPh (i:=i) hf;omega
theorem aNb {ms:List MV}{k x:Int}:x∈nexts ms k↔∃m∈ms,m.old=k/\x∈m.new:=by
 unfold nexts
 rw[List.mem_flatMap]
 constructor
 ·rintro ⟨m,hm,hx⟩
  split at hx
  ·rename_i e;exact ⟨m,hm,e,hx⟩
  cases hx
 rintro ⟨m,hm,e,hx⟩;exact ⟨m,hm,by rw[if_pos e];exact hx⟩
theorem bEs {ms:List MV}{k:Int}:obsM ms k=true↔∃m∈ms,m.old=k:=by
 unfold obsM;rw[List.any_eq_true];simp
def Rising (ms:List MV):Prop:=∀m∈ms,∀x∈m.new,m.old<x
def AllIs (ms:List MV)(next:List Int)(t:Nat)(all:List Int):Prop:=∀x,x∈all↔∃y∈next.take t,Reach ms y x/\obsM ms x=false
structure ChainIs (n:Nat) (ms:List MV):Prop where
 len:ms.length=n-1
 at_:∀(k:Nat) (m:MV),ms[k]? = some m->m.old=(k:Int)/\m.new=[(k:Int)+1]
theorem aVo (n:Int)(ms:List MV)(m:MV):rightM n (ms++[m])=(rightM n ms && okM n m):=by
 unfold rightM;simp
end Go.Proofs.YtohblmepajhpaaaGreatDoor
