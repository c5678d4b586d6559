/- Texts of the walks, together: What the engine asks of this seat's types: each by the kernel's own reckoning. Printed by a program (facts.py). What slices read as; the engine's effects: a call, an append. The row of a law that answers true and leaves its arguments: one closer for all of them; a slice of strings opened. Markers, plainly: what follows, what is reached, what is final; lists in order. Markers, plainly: the two ways to what is final. Markers, plainly: what the laws on final ones and on chains say. Graphs, plainly: right ones, chains, what lives, what moves, targets, orphans. Paths and trees in plain words: what stands between slashes, what is right, what leads into what. Walks: the program's path.Right, and the document's Path. -/
import Derived.Maps.AppendAt
import Derived.Deep.AppendLies
import Derived.Test.YtohblmepajhpaaaGreatDoorRows
import Derived.ProofKit
import Derived.SizedLaws
import Derived.SliceStrings
import Derived.Lib.SplitLaws
import Derived.Lib.ConvBytes
import Derived.Test.YtohblmepajhpaaaGreatDoorG00
set_option maxHeartbeats 4000000
set_option maxRecDepth 100000
open Go.Lib (hid)
namespace Go.Proofs.YtohblmepajhpaaaGreatDoor
theorem aAe :
  lz Tryz.prog 2=some 0/\
  ikOf Tryz.prog 2=some .i64/\
  (Tryz.prog.underlying 2).isSome=true/\
  lz Tryz.prog 3=some 0/\
  ikOf Tryz.prog 3=some .i64/\
  (Tryz.prog.underlying 3).isSome=true/\
  lz Tryz.prog 4=some 0/\
  lz Tryz.prog 5=some 0/\
  ikOf Tryz.prog 5=some .u8/\
  (Tryz.prog.underlying 5).isSome=true/\
  lz Tryz.prog 9=some 0/\
  es Tryz.prog 9=none/\
  isStr Tryz.prog 9=true/\
  lz Tryz.prog 12=some 0/\
  ikOf Tryz.prog 12=some .u64/\
  (Tryz.prog.underlying 12).isSome=true/\
  lz Tryz.prog 15=some 0/\
  lz Tryz.prog 16=some 0/\
  lz Tryz.prog 21=some 0/\
  ikOf Tryz.prog 21=some .i32/\
  (Tryz.prog.underlying 21).isSome=true/\
  lz Tryz.prog 22=some 0/\
  es Tryz.prog 22=some 3/\
  isStr Tryz.prog 22=false/\
  ea Tryz.prog 22=none/\
  lz Tryz.prog 23=some 0/\
  es Tryz.prog 23=some 2/\
  isStr Tryz.prog 23=false/\
  ea Tryz.prog 23=none/\
  lz Tryz.prog 28=some 0/\
  ikOf Tryz.prog 28=some .u64/\
  (Tryz.prog.underlying 28).isSome=true/\
  lz Tryz.prog 29=some 0/\
  es Tryz.prog 29=some 3/\
  isStr Tryz.prog 29=false/\
  ea Tryz.prog 29=none/\
  lz Tryz.prog 30=some 0/\
  es Tryz.prog 30=some 3/\
  isStr Tryz.prog 30=false/\
  ea Tryz.prog 30=none/\
  fo Tryz.prog 31 0=some 0/\
  fo Tryz.prog 31 1=some 1/\
  fo Tryz.prog 31 2=some 2/\
  fo Tryz.prog 31 3=some 3/\
  fo Tryz.prog 31 4=some 4/\
  lz Tryz.prog 31=some 6/\
  fo Tryz.prog 32 0=some 0/\
  fo Tryz.prog 32 1=some 1/\
  fo Tryz.prog 32 2=some 2/\
  fo Tryz.prog 32 3=some 3/\
  fo Tryz.prog 32 4=some 4/\
  lz Tryz.prog 32=some 6/\
  lz Tryz.prog 33=some 0/\
  ikOf Tryz.prog 33=some .i64/\
  (Tryz.prog.underlying 33).isSome=true/\
  lz Tryz.prog 36=some 0/\
  es Tryz.prog 36=some 1/\
  isStr Tryz.prog 36=false/\
  ea Tryz.prog 36=none/\
  fo Tryz.prog 39 0=some 0/\
  fo Tryz.prog 39 1=some 1/\
  fo Tryz.prog 39 2=some 2/\
  lz Tryz.prog 39=some 4/\
  fo Tryz.prog 40 0=some 0/\
  fo Tryz.prog 40 1=some 1/\
  fo Tryz.prog 40 2=some 2/\
  lz Tryz.prog 40=some 4/\
  fo Tryz.prog 42 0=some 0/\
  fo Tryz.prog 42 1=some 1/\
  lz Tryz.prog 42=some 3/\
  fo Tryz.prog 43 0=some 0/\
  fo Tryz.prog 43 1=some 1/\
  lz Tryz.prog 43=some 3/\
  fo Tryz.prog 47 0=some 0/\
  fo Tryz.prog 47 1=some 1/\
  fo Tryz.prog 47 2=some 2/\
  lz Tryz.prog 47=some 4/\
  fo Tryz.prog 48 0=some 0/\
  fo Tryz.prog 48 1=some 1/\
  fo Tryz.prog 48 2=some 2/\
  lz Tryz.prog 48=some 4/\
  fo Tryz.prog 51 0=some 0/\
  fo Tryz.prog 51 1=some 1/\
  lz Tryz.prog 51=some 3/\
  fo Tryz.prog 52 0=some 0/\
  fo Tryz.prog 52 1=some 1/\
  lz Tryz.prog 52=some 3/\
  lz Tryz.prog 53=some 0/\
  es Tryz.prog 53=some 2/\
  isStr Tryz.prog 53=false/\
  ea Tryz.prog 53=none/\
  lz Tryz.prog 74=some 0/\
  lz Tryz.prog 81=some 0/\
  es Tryz.prog 81=some 2/\
  isStr Tryz.prog 81=false/\
  ea Tryz.prog 81=none/\
  lz Tryz.prog 83=some 0/\
  fo Tryz.prog 84 0=some 0/\
  fo Tryz.prog 84 1=some 1/\
  lz Tryz.prog 84=some 3/\
  fo Tryz.prog 85 0=some 0/\
  fo Tryz.prog 85 1=some 1/\
  lz Tryz.prog 85=some 3/\
  fo Tryz.prog 93 0=some 0/\
  fo Tryz.prog 93 1=some 1/\
  fo Tryz.prog 93 2=some 2/\
  lz Tryz.prog 93=some 4/\
  fo Tryz.prog 94 0=some 0/\
  fo Tryz.prog 94 1=some 1/\
  fo Tryz.prog 94 2=some 2/\
  lz Tryz.prog 94=some 4/\
  lz Tryz.prog 102=some 0/\
  es Tryz.prog 102=some 1/\
  isStr Tryz.prog 102=false/\
  ea Tryz.prog 102=none/\
  fo Tryz.prog 108 0=some 0/\
  fo Tryz.prog 108 1=some 1/\
  fo Tryz.prog 108 2=some 2/\
  fo Tryz.prog 108 3=some 3/\
  fo Tryz.prog 108 4=some 4/\
  fo Tryz.prog 108 5=some 5/\
  lz Tryz.prog 108=some 11/\
  fo Tryz.prog 109 0=some 0/\
  fo Tryz.prog 109 1=some 1/\
  fo Tryz.prog 109 2=some 2/\
  fo Tryz.prog 109 3=some 3/\
  fo Tryz.prog 109 4=some 4/\
  fo Tryz.prog 109 5=some 5/\
  lz Tryz.prog 109=some 11/\
  lz Tryz.prog 122=some 0/\
  fo Tryz.prog 124 0=some 0/\
  lz Tryz.prog 124=some 2/\
  fo Tryz.prog 125 0=some 0/\
  lz Tryz.prog 125=some 2/\
  lz Tryz.prog 128=some 0/\
  es Tryz.prog 128=some 1/\
  isStr Tryz.prog 128=false/\
  ea Tryz.prog 128=none/\
  fo Tryz.prog 131 0=some 0/\
  fo Tryz.prog 131 1=some 1/\
  lz Tryz.prog 131=some 3/\
  fo Tryz.prog 132 0=some 0/\
  fo Tryz.prog 132 1=some 1/\
  lz Tryz.prog 132=some 3/\
  lz Tryz.prog 133=some 0/\
  es Tryz.prog 133=some 4/\
  isStr Tryz.prog 133=false/\
  ea Tryz.prog 133=none/\
  lz Tryz.prog 135=some 0/\
  es Tryz.prog 135=some 1/\
  isStr Tryz.prog 135=false/\
  ea Tryz.prog 135=none/\
  lz Tryz.prog 140=some 5/\
  ea Tryz.prog 140=some (4,1)/\
  es Tryz.prog 140=none/\
  fo Tryz.prog 142 0=some 0/\
  fo Tryz.prog 142 1=some 1/\
  fo Tryz.prog 142 2=some 2/\
  fo Tryz.prog 142 3=some 3/\
  lz Tryz.prog 142=some 5/\
  fo Tryz.prog 143 0=some 0/\
  fo Tryz.prog 143 1=some 1/\
  fo Tryz.prog 143 2=some 2/\
  fo Tryz.prog 143 3=some 3/\
  lz Tryz.prog 143=some 5/\
  lz Tryz.prog 146=some 0/\
  es Tryz.prog 146=some 1/\
  isStr Tryz.prog 146=false/\
  ea Tryz.prog 146=none/\
  lz Tryz.prog 147=some 0/\
  es Tryz.prog 147=some 1/\
  isStr Tryz.prog 147=false/\
  ea Tryz.prog 147=none/\
  lz Tryz.prog 153=some 0/\
  lz Tryz.prog 166=some 0/\
  ikOf Tryz.prog 166=some .u64/\
  (Tryz.prog.underlying 166).isSome=true/\
  lz Tryz.prog 167=some 0/\
  es Tryz.prog 167=some 1/\
  isStr Tryz.prog 167=false/\
  ea Tryz.prog 167=none/\
  fo Tryz.prog 171 0=some 0/\
  lz Tryz.prog 171=some 2/\
  fo Tryz.prog 172 0=some 0/\
  lz Tryz.prog 172=some 2/\
  lz Tryz.prog 177=some 0/\
  lz Tryz.prog 179=some 0/\
  fo Tryz.prog 180 0=some 0/\
  fo Tryz.prog 180 1=some 1/\
  lz Tryz.prog 180=some 3/\
  fo Tryz.prog 181 0=some 0/\
  fo Tryz.prog 181 1=some 1/\
  lz Tryz.prog 181=some 3/\
  lz Tryz.prog 188=some 0/\
  es Tryz.prog 188=some 1/\
  isStr Tryz.prog 188=false/\
  ea Tryz.prog 188=none/\
  lz Tryz.prog 190=some 0/\
  es Tryz.prog 190=some 2/\
  isStr Tryz.prog 190=false/\
  ea Tryz.prog 190=none/\
  fo Tryz.prog 192 0=some 0/\
  fo Tryz.prog 192 1=some 1/\
  lz Tryz.prog 192=some 3/\
  fo Tryz.prog 193 0=some 0/\
  fo Tryz.prog 193 1=some 1/\
  lz Tryz.prog 193=some 3/\
  lz Tryz.prog 197=some 0/\
  lz Tryz.prog 198=some 0/\
  lz Tryz.prog 200=some 0/\
  fo Tryz.prog 202 0=some 0/\
  lz Tryz.prog 202=some 2/\
  fo Tryz.prog 203 0=some 0/\
  lz Tryz.prog 203=some 2/\
  lz Tryz.prog 211=some 0/\
  lz Tryz.prog 212=some 0/\
  fo Tryz.prog 213 0=some 0/\
  fo Tryz.prog 213 1=some 1/\
  fo Tryz.prog 213 2=some 2/\
  lz Tryz.prog 213=some 4/\
  fo Tryz.prog 214 0=some 0/\
  fo Tryz.prog 214 1=some 1/\
  fo Tryz.prog 214 2=some 2/\
  lz Tryz.prog 214=some 4/\
  fo Tryz.prog 215 0=some 0/\
  lz Tryz.prog 215=some 2/\
  fo Tryz.prog 216 0=some 0/\
  lz Tryz.prog 216=some 2/\
  lz Tryz.prog 226=some 0/\
  lz Tryz.prog 228=some 0/\
  lz Tryz.prog 229=some 0/\
  es Tryz.prog 229=some 2/\
  isStr Tryz.prog 229=false/\
  ea Tryz.prog 229=none/\
  fo Tryz.prog 230 0=some 0/\
  fo Tryz.prog 230 1=some 1/\
  fo Tryz.prog 230 2=some 2/\
  fo Tryz.prog 230 3=some 3/\
  fo Tryz.prog 230 4=some 4/\
  fo Tryz.prog 230 5=some 5/\
  lz Tryz.prog 230=some 7/\
  fo Tryz.prog 231 0=some 0/\
  fo Tryz.prog 231 1=some 1/\
  fo Tryz.prog 231 2=some 2/\
  fo Tryz.prog 231 3=some 3/\
  fo Tryz.prog 231 4=some 4/\
  fo Tryz.prog 231 5=some 5/\
  lz Tryz.prog 231=some 7/\
  fo Tryz.prog 233 0=some 0/\
  fo Tryz.prog 233 1=some 1/\
  lz Tryz.prog 233=some 3/\
  fo Tryz.prog 234 0=some 0/\
  fo Tryz.prog 234 1=some 1/\
  lz Tryz.prog 234=some 3/\
  lz Tryz.prog 240=some 0/\
  lz Tryz.prog 241=some 0/\
  fo Tryz.prog 242 0=some 0/\
  fo Tryz.prog 242 1=some 1/\
  lz Tryz.prog 242=some 3/\
  fo Tryz.prog 243 0=some 0/\
  fo Tryz.prog 243 1=some 1/\
  lz Tryz.prog 243=some 3/\
  fo Tryz.prog 244 0=some 0/\
  lz Tryz.prog 244=some 3/\
  fo Tryz.prog 245 0=some 0/\
  lz Tryz.prog 245=some 3/\
  lz Tryz.prog 250=some 0/\
  ikOf Tryz.prog 250=some .i64/\
  (Tryz.prog.underlying 250).isSome=true/\
  lz Tryz.prog 257=some 0/\
  ikOf Tryz.prog 257=some .u32/\
  (Tryz.prog.underlying 257).isSome=true/\
  lz Tryz.prog 269=some 0/\
  lz Tryz.prog 271=some 0/\
  fo Tryz.prog 272 0=some 0/\
  fo Tryz.prog 272 1=some 1/\
  lz Tryz.prog 272=some 3/\
  fo Tryz.prog 273 0=some 0/\
  fo Tryz.prog 273 1=some 1/\
  lz Tryz.prog 273=some 3/\
  lz Tryz.prog 276=some 0/\
  fo Tryz.prog 277 0=some 0/\
  fo Tryz.prog 277 1=some 1/\
  fo Tryz.prog 277 2=some 2/\
  fo Tryz.prog 277 3=some 3/\
  fo Tryz.prog 277 4=some 4/\
  fo Tryz.prog 277 5=some 6/\
  lz Tryz.prog 277=some 8/\
  fo Tryz.prog 278 0=some 0/\
  fo Tryz.prog 278 1=some 1/\
  fo Tryz.prog 278 2=some 2/\
  fo Tryz.prog 278 3=some 3/\
  fo Tryz.prog 278 4=some 4/\
  fo Tryz.prog 278 5=some 6/\
  lz Tryz.prog 278=some 8/\
  lz Tryz.prog 288=some 0/\
  lz Tryz.prog 289=some 0/\
  ikOf Tryz.prog 289=some .u64/\
  (Tryz.prog.underlying 289).isSome=true/\
  lz Tryz.prog 293=some 0/\
  lz Tryz.prog 313=some 0/\
  lz Tryz.prog 315=some 0/\
  lz Tryz.prog 321=some 0/\
  es Tryz.prog 321=some 1/\
  isStr Tryz.prog 321=false/\
  ea Tryz.prog 321=none/\
  lz Tryz.prog 326=some 0/\
  lz Tryz.prog 329=some 0/\
  lz Tryz.prog 332=some 257/\
  ea Tryz.prog 332=some (256,1)/\
  es Tryz.prog 332=none/\
  fo Tryz.prog 333 0=some 0/\
  fo Tryz.prog 333 1=some 1/\
  lz Tryz.prog 333=some 3/\
  fo Tryz.prog 334 0=some 0/\
  fo Tryz.prog 334 1=some 1/\
  lz Tryz.prog 334=some 3/\
  lz Tryz.prog 335=some 33/\
  ea Tryz.prog 335=some (16,2)/\
  es Tryz.prog 335=none/\
  lz Tryz.prog 339=some 0/\
  es Tryz.prog 339=some 1/\
  isStr Tryz.prog 339=false/\
  ea Tryz.prog 339=none/\
  fo Tryz.prog 341 0=some 0/\
  fo Tryz.prog 341 1=some 1/\
  lz Tryz.prog 341=some 3/\
  fo Tryz.prog 342 0=some 0/\
  fo Tryz.prog 342 1=some 1/\
  lz Tryz.prog 342=some 3:=
 ⟨by kernel_rfl,by kernel_rfl,by kernel_rfl,by kernel_rfl,by kernel_rfl,by kernel_rfl,by kernel_rfl,by kernel_rfl,by kernel_rfl,by kernel_rfl,by kernel_rfl,by kernel_rfl,by kernel_rfl,by kernel_rfl,by kernel_rfl,by kernel_rfl,by kernel_rfl,by kernel_rfl,by kernel_rfl,by kernel_rfl,by kernel_rfl,by kernel_rfl,by kernel_rfl,by kernel_rfl,by kernel_rfl,by kernel_rfl,by kernel_rfl,by kernel_rfl,by kernel_rfl,by kernel_rfl,by kernel_rfl,by kernel_rfl,by kernel_rfl,by kernel_rfl,by kernel_rfl,by kernel_rfl,by kernel_rfl,by kernel_rfl,by kernel_rfl,by kernel_rfl,by kernel_rfl,by kernel_rfl,by kernel_rfl,by kernel_rfl,by kernel_rfl,by kernel_rfl,by kernel_rfl,by kernel_rfl,by kernel_rfl,by kernel_rfl,by kernel_rfl,by kernel_rfl,by kernel_rfl,by kernel_rfl,by kernel_rfl,by kernel_rfl,by kernel_rfl,by kernel_rfl,by kernel_rfl,by kernel_rfl,by kernel_rfl,by kernel_rfl,by kernel_rfl,by kernel_rfl,by kernel_rfl,by kernel_rfl,by kernel_rfl,by kernel_rfl,by kernel_rfl,by kernel_rfl,by kernel_rfl,by kernel_rfl,by kernel_rfl,by kernel_rfl,by kernel_rfl,by kernel_rfl,by kernel_rfl,by kernel_rfl,by kernel_rfl,by kernel_rfl,by kernel_rfl,by kernel_rfl,by kernel_rfl,by kernel_rfl,by kernel_rfl,by kernel_rfl,by kernel_rfl,by kernel_rfl,by kernel_rfl,by kernel_rfl,by kernel_rfl,by kernel_rfl,by kernel_rfl,by kernel_rfl,by kernel_rfl,by kernel_rfl,by kernel_rfl,by kernel_rfl,by kernel_rfl,by kernel_rfl,by kernel_rfl,by kernel_rfl,by kernel_rfl,by kernel_rfl,by kernel_rfl,by kernel_rfl,by kernel_rfl,by kernel_rfl,by kernel_rfl,by kernel_rfl,by kernel_rfl,by kernel_rfl,by kernel_rfl,by kernel_rfl,by kernel_rfl,by kernel_rfl,by kernel_rfl,by kernel_rfl,by kernel_rfl,by kernel_rfl,by kernel_rfl,by kernel_rfl,by kernel_rfl,by kernel_rfl,by kernel_rfl,by kernel_rfl,by kernel_rfl,by kernel_rfl,by kernel_rfl,by kernel_rfl,by kernel_rfl,by kernel_rfl,by kernel_rfl,by kernel_rfl,by kernel_rfl,by kernel_rfl,by kernel_rfl,by kernel_rfl,by kernel_rfl,by kernel_rfl,by kernel_rfl,by kernel_rfl,by kernel_rfl,by kernel_rfl,by kernel_rfl,by kernel_rfl,by kernel_rfl,by kernel_rfl,by kernel_rfl,by kernel_rfl,by kernel_rfl,by kernel_rfl,by kernel_rfl,by kernel_rfl,by kernel_rfl,by kernel_rfl,by kernel_rfl,by kernel_rfl,by kernel_rfl,by kernel_rfl,by kernel_rfl,by kernel_rfl,by kernel_rfl,by kernel_rfl,by kernel_rfl,by kernel_rfl,by kernel_rfl,by kernel_rfl,by kernel_rfl,by kernel_rfl,by kernel_rfl,by kernel_rfl,by kernel_rfl,by kernel_rfl,by kernel_rfl,by kernel_rfl,by kernel_rfl,by kernel_rfl,by kernel_rfl,by kernel_rfl,by kernel_rfl,by kernel_rfl,by kernel_rfl,by kernel_rfl,by kernel_rfl,by kernel_rfl,by kernel_rfl,by kernel_rfl,by kernel_rfl,by kernel_rfl,by kernel_rfl,by kernel_rfl,by kernel_rfl,by kernel_rfl,by kernel_rfl,by kernel_rfl,by kernel_rfl,by kernel_rfl,by kernel_rfl,by kernel_rfl,by kernel_rfl,by kernel_rfl,by kernel_rfl,by kernel_rfl,by kernel_rfl,by kernel_rfl,by kernel_rfl,by kernel_rfl,by kernel_rfl,by kernel_rfl,by kernel_rfl,by kernel_rfl,by kernel_rfl,by kernel_rfl,by kernel_rfl,by kernel_rfl,by kernel_rfl,by kernel_rfl,by kernel_rfl,by kernel_rfl,by kernel_rfl,by kernel_rfl,by kernel_rfl,by kernel_rfl,by kernel_rfl,by kernel_rfl,by kernel_rfl,by kernel_rfl,by kernel_rfl,by kernel_rfl,by kernel_rfl,by kernel_rfl,by kernel_rfl,by kernel_rfl,by kernel_rfl,by kernel_rfl,by kernel_rfl,by kernel_rfl,by kernel_rfl,by kernel_rfl,by kernel_rfl,by kernel_rfl,by kernel_rfl,by kernel_rfl,by kernel_rfl,by kernel_rfl,by kernel_rfl,by kernel_rfl,by kernel_rfl,by kernel_rfl,by kernel_rfl,by kernel_rfl,by kernel_rfl,by kernel_rfl,by kernel_rfl,by kernel_rfl,by kernel_rfl,by kernel_rfl,by kernel_rfl,by kernel_rfl,by kernel_rfl,by kernel_rfl,by kernel_rfl,by kernel_rfl,by kernel_rfl,by kernel_rfl,by kernel_rfl,by kernel_rfl,by kernel_rfl,by kernel_rfl,by kernel_rfl,by kernel_rfl,by kernel_rfl,by kernel_rfl,by kernel_rfl,by kernel_rfl,by kernel_rfl,by kernel_rfl,by kernel_rfl,by kernel_rfl,by kernel_rfl,by kernel_rfl,by kernel_rfl,by kernel_rfl,by kernel_rfl,by kernel_rfl,by kernel_rfl,by kernel_rfl,by kernel_rfl,by kernel_rfl,by kernel_rfl,by kernel_rfl,by kernel_rfl,by kernel_rfl,by kernel_rfl,by kernel_rfl,by kernel_rfl,by kernel_rfl,by kernel_rfl,by kernel_rfl,by kernel_rfl,by kernel_rfl,by kernel_rfl,by kernel_rfl,by kernel_rfl,by kernel_rfl,by kernel_rfl,by kernel_rfl,by kernel_rfl,by kernel_rfl,by kernel_rfl,by kernel_rfl,by kernel_rfl,by kernel_rfl,by kernel_rfl,by kernel_rfl,by kernel_rfl,by kernel_rfl,by kernel_rfl,by kernel_rfl,by kernel_rfl,by kernel_rfl,by kernel_rfl,by kernel_rfl,by kernel_rfl,by kernel_rfl,by kernel_rfl,by kernel_rfl,by kernel_rfl,by kernel_rfl⟩
theorem mixed:Tryz.prog.follows .mixedOrders=true:=by kernel_rfl
end Go.Proofs.YtohblmepajhpaaaGreatDoor
namespace Go.Proofs.YtohblmepajhpaaaGreatDoor
open Go.RowKit
structure Rd (w:World) (B sz:Nat) (A:Option Addr) (n c:Nat) (xs:List Value):Prop where
 len:xs.length=n*sz
 cap:n<=c
 at_:0<n->∃b o:Nat,A=some ⟨b,o,none⟩/\b<B/\∀j u,xs[j]? = some u->w.cell? ⟨b,o+j,none⟩=some u
theorem Rd.one {w:World}{B n c:Nat}{A:Option Addr}{xs:List Value}(h:Rd w B 1 A n c xs){k:Nat}(hk:k<n) :
  ∃b o u,A=some ⟨b,o,none⟩/\b<B/\xs[k]? = some u/\w.cell? ⟨b,o+k,none⟩=some u:=by
 obtain ⟨b,o,e,hb,hc⟩:=h.at_ (by omega)
 have hl:k<xs.length:=by have:=h.len;omega
 exact ⟨b,o,xs[k],e,hb,List.getElem?_eq_getElem hl,hc k _ (List.getElem?_eq_getElem hl)⟩
theorem Rd.str {w:World}{B n c:Nat}{A:Option Addr}{l:List ByteArray}(h:Rd w B 1 A n c (l.map .string)){k:Nat}(hk:k<n) :
  ∃b o u,A=some ⟨b,o,none⟩/\b<B/\l[k]? = some u/\w.cell? ⟨b,o+k,none⟩=some (.string u):=by
 obtain ⟨b,o,u,e,hb,hx,hc⟩:=h.one hk
 rw[List.getElem?_map] at hx
 cases hl:l[k]? with
 | none=>rw[hl] at hx;cases hx
 | some s=>rw[hl] at hx;cases hx;exact ⟨b,o,s,e,hb,rfl,hc⟩
theorem aBw {u v:ByteArray}(h:u≠v):(u.toList == v.toList)=false:=(Lib.bytes_beq_false_iff u v).2 h
theorem aFf {u v:Int}(h:u≠v):(u == v)=false/\(u != v)=true:=by
 have h1:(u == v)=false:=beq_eq_false_iff_ne.2 h
 exact ⟨h1,by rw[bne,h1];rfl⟩
theorem aAf {a b:Bool}(h:a=b):Ending.returned (.bool a)=.returned (.bool b):=by rw[h]
theorem bBu (a:Addr)(n:Nat):(a.add n).block=a.block:=by unfold Addr.add;split<;>rfl
section
variable {w w':World} {B B' sz n c:Nat} {A:Option Addr} {xs:List Value}
theorem Rd.none_ (w:World)(B sz:Nat):Rd w B sz none 0 0 []:=⟨by simp,Nat.le_refl _,fun h=>absurd h (by omega)⟩
theorem Rd.keep (h:Rd w B sz A n c xs)(hk:∀p:Addr,p.block<B->w'.cell? p=w.cell? p):Rd w' B sz A n c xs:=
 ⟨h.len,h.cap,fun hn=>by
  obtain ⟨b,o,e,hb,hc⟩:=h.at_ hn
  exact ⟨b,o,e,hb,fun j u hu=>(hk _ hb).trans (hc j u hu)⟩⟩
theorem Rd.more (h:Rd w B sz A n c xs)(hB:B<=B'):Rd w B' sz A n c xs:=
 ⟨h.len,h.cap,fun hn=>by obtain ⟨b,o,e,hb,hc⟩:=h.at_ hn;exact ⟨b,o,e,by omega,hc⟩⟩
theorem Rd.below (h:Rd w B sz A n c xs)(hb:Below B w w'):Rd w' B sz A n c xs:=h.keep fun _ hp=>hb.cell hp
theorem Rd.to (h:Rd w B sz A n c xs)(hb:Below B w w')(hB:B<=B'):Rd w' B' sz A n c xs:=(h.below hb).more hB
theorem Rd.drew (h:Rd w B sz A n c xs):Rd w.drew B sz A n c xs:=⟨h.len,h.cap,h.at_⟩
theorem Rd.grown (h:Rd w B sz A n c xs){row:Option Nat}(hg:w.grownBy w' row)(hB:B<=w.heap.size)(hr:∀g,row=some g->B<=g):Rd w' B sz A n c xs:=
 h.keep fun p hp=>World.cell?_of_block (hg.block p.block (by omega) (fun e=>by have:=hr _ e.symm;omega))
theorem Rd.cut (h:Rd w B sz A n c xs){l k:Nat}(hl:l<=k)(hk:k<=n) :
  Rd w B sz (if c=l then A else A.map (·.add (l*sz))) (k-l) (c-l) ((xs.take (k*sz)).drop (l*sz)):=by
 have hc:=h.cap
 refine ⟨by rw[List.length_drop,List.length_take,h.len,Nat.min_eq_left (Nat.mul_le_mul_right _ hk),Nat.sub_mul],by omega,fun hn=>?_⟩
 obtain ⟨b,o,rfl,hb,hcell⟩:=h.at_ (by omega)
 rw[if_neg (by omega)]
 refine ⟨b,o+l*sz,by simp[Addr.add];try (split<;>simp_all),hb,fun j u hu=>?_⟩
 rw[List.getElem?_drop,List.getElem?_take] at hu
 split at hu
 ·rw[Nat.add_assoc];exact hcell _ u hu
 cases hu
theorem Rd.cut1 (h:Rd w B 1 A n c xs){l k:Nat}(hl:l<=k)(hk:k<=n) :
  Rd w B 1 (if c=l then A else A.map (·.add l)) (k-l) (c-l) ((xs.take k).drop l):=by
 have:=h.cut hl hk
 simpa using this
theorem Rd.of_own {base:Nat}{e:TypeId}(h:w.ownsRow base e sz (.slice A n c) n xs)(hc:n<=c):Rd w w.heap.size sz A n c xs:=by
 refine ⟨h.1,hc,fun hn=>?_⟩
 obtain ⟨g,cap,hv,_,hlt⟩:=h.form hn
 have hA:A=some ⟨g,0,none⟩:=by injection hv
 subst hA
 refine ⟨g,0,rfl,hlt,fun j u hu=>?_⟩
 have:=h.cells (g:=g) rfl j u hu
 have hadd:(⟨g,0,none⟩:Addr).add j=⟨g,0+j,none⟩:=by unfold Addr.add;split<;>simp_all
 rwa [hadd] at this
end
theorem aAd {w:World}{base:Nat}{e:TypeId}{sz n:Nat}{v:Value}{xs:List Value}(h:w.ownsRow base e sz v n xs):∃A c,v=.slice A n c/\n<=c:=by
 rcases h.2 with ⟨rfl,rfl⟩ | ⟨g,cap,cur,rfl,_,_,hc,_⟩
 ·exact ⟨none,0,rfl,Nat.le_refl _⟩
 exact ⟨_,cap,rfl,hc⟩
def BoolBelow (b:Bool)(w:World)(e:Ending) (w':World):Prop:=e=.returned (.bool b)/\Below w.heap.size w w'
def isGo (P:Program)(f:FuncId):Bool:=
 match P.funcs[f]? with
 | some fn => !(fn.name == "runtime.NumGoroutine") && fn.body.isSome
 | none=>false
theorem aYv {P:Program}{f:FuncId}(h:isGo P f=true)(args:Array Value)(w:World):(callFunc f args).run P w=.ok (.enter f args) w:=by
 unfold isGo at h
 split at h
 ·rename_i fn hf
  simp only[Bool.and_eq_true,Bool.not_eq_true'] at h
  have hb:¬fn.body=none:=by intro hh;simp[hh] at h
  have hn : ¬ fn.name = "runtime.NumGoroutine" := by have := h.1; simpa using this
  simp[callFunc,hf,hn,hb]
 cases h
section
variable {P:Program} {S:World->Prop} {a:Act} {w:World} {K:Act->World->Prop}
theorem aAi {dst:Option Tmp}{f:Operand}{args:Array Operand}{tys:Array TypeId}{ty:TypeId}{q:Bool}{g:Option (Tmp×Bool)}{F:FuncId}{vs:Array Value}{R:Ending->World->Prop}
  (hg:isGo P F=true) (hc:Calls P F vs w R) (hf:a.eval f=.func (.func F) #[] #[]) (ha:(args.toList.map a.eval).toArray=vs)
  (hK:∀e w',R e w'->∃v,e=.returned v/\S w'/\K (a.put dst v) w') :
  effq P S ⟨q,dst,.call ⟨.value f,args,tys⟩,ty,g⟩ a w K:=by
 intro p af g
 unfold Oper.wp
 have hrun:(execOp a.eval ⟨dst,.call ⟨.value f,args,tys⟩,ty,p,af,g⟩).run P w=.ok (.enter F vs) w:=by
  have ha':args.map a.eval=vs:=by rw[<-ha];apply Array.toList_inj.1;simp
  simp[execOp,resolve,invoke,hf,ha',Deferred.ofValue,aYv hg]
 rw[hrun]
 refine Calls.mono hc fun e w' hR=>?_
 obtain ⟨v,rfl,hS,hk⟩:=hK e w' hR
 exact ⟨hS,hk⟩
theorem aIg (w:World)(base:Nat)(t ty e:TypeId)(i:TypeInfo)(z:Value)(size bytes:Nat)(ht:P.underlying t=some (.slice e))(hi:P.info? e=some i)(hz:i.zero=some z)
  (hsize:i.size=size) (hby:i.bytes=bytes) (hzs:z.cells.size=size) (hsz:0<size)
  (v:Value) (n:Nat) (xs:List Value) (hown:w.ownsRow base e size v n xs)
  (B:Nat) (A:Option Addr) (m c:Nat) (news:List Value) (hr:Rd w B size A m c news) (h1:∀u∈news,u.oneCell'=true)
  (h63:n+m<=maxLen) (hbytes:(n+m)*bytes<=140737488355328) (hbase:base<=w.heap.size) :
  ∃v' w',(Builtin.append_ #[t,t] ty #[v,.slice A m c]).run P w=.ok v' w'/\w'.ownsRow base e size v' (n+m) (xs++news)/\w.grownBy w' v.ownBlock/\
   (v'.ownBlock=v.ownBlock\/v'.ownBlock=some w.heap.size):=by
 rcases A with _ | ad
 ·have hm:m=0:=by
   rcases Nat.eq_zero_or_pos m with h0 | h0
   ·exact h0
   obtain ⟨b,o,h,_⟩:=hr.at_ h0
   cases h
  subst hm
  have hn:news=[]:=List.eq_nil_of_length_eq_zero (by simpa using hr.len)
  subst hn
  refine ⟨v,w,?_,by simpa using hown,World.grownBy.refl w _,.inl rfl⟩
  rcases hown.2 with ⟨rfl,rfl⟩ | ⟨g,cap,cur,rfl,_,_,hnc,_⟩
  ·simp[Builtin.append_,run_underlying ht,sizeOf,typeInfo,hi,Builtin.lenOf,Builtin.firstCells]
  simp[Builtin.append_,run_underlying ht,sizeOf,typeInfo,hi,Builtin.lenOf,Builtin.firstCells,hnc,storeCells]
 have hcells:∀j u,news[j]? = some u->w.cell? (ad.add j)=some u:=by
  intro j u hu
  rcases Nat.eq_zero_or_pos m with h0 | h0
  ·subst h0
   have hn:news=[]:=List.eq_nil_of_length_eq_zero (by simpa using hr.len)
   subst hn
   simp at hu
  obtain ⟨b,o,h,_,hc⟩:=hr.at_ h0
  cases h
  have hadd:(⟨b,o,none⟩:Addr).add j=⟨b,o+j,none⟩:=by unfold Addr.add;split<;>simp_all
  rw[hadd]
  exact hc j u hu
 obtain ⟨v',w',hrun,h2,h3,_,h5⟩:=run_append_own_at (P:=P) w base t ty e i z size bytes ht hi hz hsize hby hzs hsz v n xs hown ad m c news hr.len hcells h1 h63 hbytes hbase
 exact ⟨v',w',hrun,h2,h3,h5⟩
structure Elem (P:Program) (t e:TypeId) (size bytes:Nat):Prop where
 und:P.underlying t=some (.slice e)
 row:∃i z,P.info? e=some i/\i.zero=some z/\i.size=size/\i.bytes=bytes/\z.cells.size=size
 pos:0<size
def elemB (P:Program)(t e:TypeId)(size bytes:Nat):Bool:=
 (match P.underlying t with | some (.slice e')=>Nat.beq e e' | _=>false) &&
 (match P.info? e with | some i=>(match i.zero with | some z=>Nat.beq z.cells.size size | none=>false) && Nat.beq i.size size && Nat.beq i.bytes bytes | none=>false) && Nat.ble 1 size
theorem aBt {P:Program}{t e:TypeId}{size bytes:Nat}(h:elemB P t e size bytes=true):Elem P t e size bytes:=by
 unfold elemB at h
 simp only[Bool.and_eq_true] at h
 obtain ⟨⟨h1,h2⟩,h3⟩:=h
 refine ⟨?_,?_,Nat.le_of_ble_eq_true h3⟩
 ·split at h1
  ·rename_i e' he;rw[he,Nat.eq_of_beq_eq_true h1]
  cases h1
 split at h2
 ·rename_i i hi
  simp only[Bool.and_eq_true] at h2
  obtain ⟨⟨g1,g2⟩,g3⟩:=h2
  split at g1
  ·rename_i z hz
   exact ⟨i,z,hi,hz,Nat.eq_of_beq_eq_true g2,Nat.eq_of_beq_eq_true g3,Nat.eq_of_beq_eq_true g1⟩
  cases g1
 cases h2
theorem aAw {dst:Option Tmp}{s x:Operand}{t ty:TypeId}{q:Bool}{g:Option (Tmp×Bool)}{e:TypeId}{size bytes:Nat}(E:Elem P t e size bytes){base:Nat}
  {v:Value} {n:Nat} {xs:List Value} {B:Nat} {A:Option Addr} {m c:Nat} {news:List Value}
  (hs:a.eval s=v) (hx:a.eval x=.slice A m c) (hown:w.ownsRow base e size v n xs) (hr:Rd w B size A m c news) (h1:∀u∈news,u.oneCell'=true)
  (h63:n+m<=maxLen) (hbytes:(n+m)*bytes<=140737488355328) (hbase:base<=w.heap.size)
  (hK:∀v' w',w'.ownsRow base e size v' (n+m) (xs++news)->w.grownBy w' v.ownBlock->(v'.ownBlock=v.ownBlock\/v'.ownBlock=some w.heap.size)->S w'/\K (a.put dst v') w') :
  effq P S ⟨q,dst,.call ⟨.builtin .append,#[s,x],#[t,t]⟩,ty,g⟩ a w K:=by
 intro p af g
 obtain ⟨i,z,hi,hz,hsz,hby,hzs⟩:=E.row
 obtain ⟨v',w',hrun,h2,h3,h4⟩:=aIg (P:=P) w base t ty e i z size bytes E.und hi hz hsz hby hzs E.pos v n xs hown B A m c news hr h1 h63 hbytes hbase
 unfold Oper.wp execOp
 simp only[resolve,invoke,builtin,Sem.run_bind,Sem.run_pure,Result.andThen_ok,List.map_toArray,List.map_cons,List.map_nil,hs,hx,hrun]
 exact hK v' w' h2 h3 h4
theorem aAn {ops:Array Oper}{rest:List Oper}{o:Oper}{Q:Exit->Act->World->Prop}(hgd:o.guard=none)(s x:Operand)(t:TypeId)
  (ho:o.op=.call { callee:=.builtin .append,args:=#[s,x],argTypes:=#[t,t] }) {e:TypeId} {size bytes:Nat} (E:Elem P t e size bytes) {base:Nat}
  {v:Value} {n:Nat} {xs:List Value} {B:Nat} {A:Option Addr} {m c:Nat} {news:List Value}
  (hs:a.eval s=v) (hx:a.eval x=.slice A m c) (hown:w.ownsRow base e size v n xs) (hr:Rd w B size A m c news) (h1:∀u∈news,u.oneCell'=true)
  (h63:n+m<=maxLen) (hbytes:(n+m)*bytes<=140737488355328) (hbase:base<=w.heap.size)
  (hK:∀v' w',w'.ownsRow base e size v' (n+m) (xs++news)->w.grownBy w' v.ownBlock->(v'.ownBlock=v.ownBlock\/v'.ownBlock=some w.heap.size)->wpList P ops Q rest (a.put o.dst v') w') :
  wpList P ops Q (o::rest) a w:=by
 obtain ⟨i,z,hi,hz,hsz,hby,hzs⟩:=E.row
 refine wpList_plain hgd fun K hK'=>?_
 obtain ⟨v',w',hrun,h2,h3,h4⟩:=aIg (P:=P) w base t o.type e i z size bytes E.und hi hz hsz hby hzs E.pos v n xs hown B A m c news hr h1 h63 hbytes hbase
 unfold Oper.wp execOp
 simp only[ho,resolve,invoke,builtin,Sem.run_bind,Sem.run_pure,Result.andThen_ok,List.map_toArray,List.map_cons,List.map_nil,hs,hx,hrun]
 exact hK' _ _ (hK v' w' h2 h3 h4)
end
theorem aEx (l:List ByteArray):∀u∈l.map Value.string,u.oneCell'=true:=by
 intro u hu
 obtain ⟨s,_,rfl⟩:=List.mem_map.1 hu
 rfl
end Go.Proofs.YtohblmepajhpaaaGreatDoor
namespace Go.Proofs.YtohblmepajhpaaaGreatDoor
open Go.ChangeShapes Go.WideShapes Go.ChangeAt Go.RowKit
theorem Tryz.own:ownKnob Tryz.prog.godebug=none:=by kernel_rfl
theorem Tryz.laidOut:laidOutB Tryz.prog=true:=by kernel_rfl
section
variable {H:Type} {enc:TypeId×Value->H}
theorem aHu {P:Program}(hl:laidOutB P=true) {W W':World}(hb:Below W.heap.size W W'):∀{ts:List TypeId} {vs:List Value} {ds:List (DataW H)} {ps:List MemPlace},
  (ts.all fun t=>P.readableRec t && decide (t<P.types.size))=true->
  DataW.TrodAll enc P W 0 (fun _=>true) true ts vs ds ps->(∀x∈ps,x.block<W.heap.size)->
  DataW.TrodAll enc P W' 0 (fun b=>decide (b<W.heap.size)) true ts vs ds ps
 | [],vs,ds,ps,_,h,_=>by
  obtain ⟨rfl,rfl,rfl⟩:=trodAll_nil h
  exact trodAll_mk0
 | t::ts,vs,ds,ps,hr,h,hlt=>by
  obtain ⟨v,vs',d,ds',p,q,rfl,rfl,rfl,hd,hrest⟩:=trodAll_cons h
  simp only[List.all_cons,Bool.and_eq_true,decide_eq_true_eq] at hr
  obtain ⟨⟨h1,h2⟩,h3⟩:=hr
  exact ⟨p,q,Below.trod hl h1 h2 hd hb (fun x hx=>hlt x (by simp[hx])),aHu hl hb h3 hrest (fun x hx=>hlt x (by simp[hx])),rfl⟩
theorem bBd {f:Func}{s:ChangeSpec}{W:World}{args:Array Value}{ds:List (DataW H)}{p:List MemPlace}
  (hW:DataW.Whole enc Tryz.prog f.params.toList s.vars false W args.toList ds [] (p++[]))
  (hA:DataW.TrodAll enc Tryz.prog W 0 (fun _=>true) true f.params.toList args.toList ds p)
  (hv:s.vars=[]) (hrt:f.resultTypes=#[4]) (hts:(f.params.toList.all fun t=>Tryz.prog.readableRec t && decide (t<Tryz.prog.types.size))=true)
  (er:(s.fn H (ds++[])).results=[.lit (.bool true)]) (ea:(s.fn H (ds++[])).args=ds) (ev:(s.fn H (ds++[])).vars=[])
  {e:Ending} {W':World} (h:BoolBelow true W e W') :
  ∃v,e=.returned v/\s.post enc Tryz.prog f false true false false W args v W':=by
 obtain ⟨rfl,hb⟩:=h
 refine ⟨_,rfl,_,_,_,[]++[],p,[],hW,?_,?_,?_,hb.frame _,fun h=>by cases h⟩
 ·rw[er,hrt];exact trodAll_mk1 (shut_bool (by kernel_rfl) true)
 ·rw[ea]
  exact aHu Tryz.laidOut hb hts hA (fun x hx=>by simpa using hW.lt x (by simp[hx]))
 rw[ev,hv];rfl
end
end Go.Proofs.YtohblmepajhpaaaGreatDoor
namespace Go.Proofs.YtohblmepajhpaaaGreatDoor
open Go.RowKit
structure MV where
 old:Int
 A:Option Addr
 c:Nat
 new:List Int
def MV.cells (m:MV):List Value:=[.int .i64 m.old,.slice m.A m.new.length m.c]
def nexts (ms:List MV)(k:Int):List Int:=ms.flatMap fun m=>if m.old=k then m.new else []
def obsM (ms:List MV)(k:Int):Bool:=ms.any fun m=>decide (m.old=k)
def okM (n:Int)(m:MV):Bool:=decide (0<=m.old) && decide (m.old<n) && decide (m.new.length<=2000) && m.new.all fun x=>decide (m.old<x) && decide (x<n)
def rightM (n:Int)(ms:List MV):Bool:=ms.all (okM n)
def fewM (ms:List MV):Bool:=ms.all (fun m=>decide (m.new.length<=12)) && decide (ms.length<=2100)
inductive Reach (ms:List MV) (i:Int):Int->Prop
 | refl:Reach ms i i
 | step {k x:Int}:Reach ms i k->x∈nexts ms k->k<x->Reach ms i x
structure FinalIs (ms:List MV) (i:Int) (l:List Int):Prop where
 sorted:l.Pairwise (·<·)
 mem:∀x,x∈l↔Reach ms i x/\obsM ms x=false
structure NextIs (ms:List MV) (i:Int) (l:List Int):Prop where
 sorted:l.Pairwise (·<·)
 mem:∀x,x∈l↔x∈nexts ms i
theorem aPd (ms:List MV)(m:MV)(k:Int):obsM (ms++[m]) k=(obsM ms k || decide (m.old=k)):=by
 unfold obsM;simp
def univ (ms:List MV)(i:Int):List Int:=i::ms.flatMap (·.new)
structure PlaceIs (l:List Int) (v:Int) (k:Nat):Prop where
 le:k<=l.length
 after:∀j x,k<=j->l[j]? = some x->v<x
 at_:k=0\/∃x,l[k-1]? = some x/\x<=v
structure AddIs (l:List Int) (v:Int) (l':List Int):Prop where
 len:l'.length<=l.length+1
 mem:∀x,x∈l'↔x∈l\/x=v
 sorted:l.Pairwise (·<·)->l'.Pairwise (·<·)
structure FinInv (ms:List MV) (i:Int) (done todo:List Int):Prop where
 nd:(done++todo).Nodup
 univ:∀x∈done++todo,x∈univ ms i
 start:i∈done++todo
 reach:∀x∈done++todo,Reach ms i x
 closed:∀k∈done,∀x∈nexts ms k,k<x->x∈done++todo
structure FinMid (ms:List MV) (i:Int) (done:List Int) (k:Int) (t:Nat) (todo:List Int):Prop where
 nd:((done++[k])++todo).Nodup
 univ:∀x∈(done++[k])++todo,x∈univ ms i
 start:i∈(done++[k])++todo
 reach:∀x∈(done++[k])++todo,Reach ms i x
 closed:∀k'∈done,∀x∈nexts ms k',k'<x->x∈(done++[k])++todo
 part:∀x∈(nexts ms k).take t,k<x->x∈(done++[k])++todo
structure RefInv (ms:List MV) (i:Int) (seen todo out:List Int):Prop where
 start:∀x∈nexts ms i,i<x->x∈seen\/x∈todo
 gt:∀x∈seen,i<x
 reach:∀x∈seen,Reach ms i x
 todoR:∀x∈todo,i<x->Reach ms i x
 closed:∀k∈seen,∀x∈nexts ms k,k<x->x∈seen\/x∈todo
 nd:seen.Nodup
 univ:∀x∈seen,x∈univ ms i
 todoU:∀x∈todo,x∈Proofs.YtohblmepajhpaaaGreatDoor.univ ms i
 sorted:out.Pairwise (·<·)
 out:∀x,x∈out↔x∈seen/\obsM ms x=false
structure RefMid (ms:List MV) (i:Int) (seen:List Int) (x:Int) (more:List Int) (t:Nat) (todo out:List Int):Prop where
 start:∀x∈nexts ms i,i<x->x∈seen\/x∈todo
 gt:∀x∈seen,i<x
 mem:x∈seen
 reach:∀x∈seen,Reach ms i x
 todoR:∀x∈todo,i<x->Reach ms i x
 closed:∀k∈seen,k≠x->∀x∈nexts ms k,k<x->x∈seen\/x∈todo
 part:∀y∈more.take t,x<y->y∈seen\/y∈todo
 nd:seen.Nodup
 univ:∀x∈seen,x∈univ ms i
 todoU:∀x∈todo,x∈Proofs.YtohblmepajhpaaaGreatDoor.univ ms i
 sorted:out.Pairwise (·<·)
 out:∀x,x∈out↔x∈seen/\obsM ms x=false
theorem bCw {ms:List MV}{k:Int}:obsM ms k=true↔∃m∈ms,m.old=k:=by
 unfold obsM;rw[List.any_eq_true];simp
def Rising (ms:List MV):Prop:=∀m∈ms,∀x∈m.new,m.old<x
def AllIs (ms:List MV)(next:List Int)(t:Nat)(all:List Int):Prop:=∀x,x∈all↔∃y∈next.take t,Reach ms y x/\obsM ms x=false
structure ChainIs (n:Nat) (ms:List MV):Prop where
 len:ms.length=n-1
 at_:∀(k:Nat) (m:MV),ms[k]? = some m->m.old=(k:Int)/\m.new=[(k:Int)+1]
theorem aVb (n:Int)(ms:List MV)(m:MV):rightM n (ms++[m])=(rightM n ms && okM n m):=by
 unfold rightM;simp
def par (l:List Int)(i:Int):Int:=(l[i.toNat]?).getD (-1)
def rightP (l:List Int):Bool:=(List.range l.length).all fun (i:Nat)=>decide (-1<=par l i) && decide (par l i<i)
theorem aGq {l:List Int}{i:Nat}{p:Int}(h:l[i]? = some p):par l i=p:=by
 unfold par;rw[Int.toNat_natCast,h];rfl
theorem aBh {l:List Int}(h:rightP l=true){i:Int}(h0:0<=i)(h1:i<l.length):-1<=par l i/\par l i<i:=by
 unfold rightP at h
 rw[List.all_eq_true] at h
 have:=h i.toNat (List.mem_range.2 (by omega))
 rw[Int.toNat_of_nonneg h0] at this
 simpa using this
theorem aIf {l:List Int}{i:Nat}{p:Int}(hx:l[i]? = some p)(h:p < -1\/(i:Int)<=p):rightP l=false:=by
 unfold rightP
 rw[List.all_eq_false]
 refine ⟨i,List.mem_range.2 (List.getElem?_eq_some_iff.1 hx).1,?_⟩
 rw[aGq hx]
 simp only[Bool.and_eq_true,decide_eq_true_eq]
 omega
theorem aJp {l:List Int}(h:∀(i:Nat)(p:Int),l[i]? = some p->-1<=p/\p<i):rightP l=true:=by
 unfold rightP
 rw[List.all_eq_true]
 intro i hi
 have hlt:=List.mem_range.1 hi
 have:=h i _ (List.getElem?_eq_getElem hlt)
 rw[aGq (List.getElem?_eq_getElem hlt)]
 simpa using this
def chn (l:List Int):Nat->Int->List Int
 | 0,_=>[]
 | f+1,b=>if b<0 then [] else b::chn l f (par l b)
theorem aXu {l:List Int}(h:rightP l=true):∀(f f':Nat) (b:Int),b<f->b<f'->b<l.length->chn l f b=chn l f' b
 | 0,0,_,_,_,_=>rfl
 | 0,f'+1,b,h1,_,_=>by simp only[chn];rw[if_pos (by omega)]
 | f+1,0,b,_,h2,_=>by simp only[chn];rw[if_pos (by omega)]
 | f+1,f'+1,b,h1,h2,h3=>by
  simp only[chn]
  by_cases hb:b<0
  ·rw[if_pos hb,if_pos hb]
  rw[if_neg hb,if_neg hb]
  have:=aBh h (i:=b) (by omega) h3
  rw[aXu h f f' (par l b) (by omega) (by omega) (by omega)]
def chain (l:List Int)(b:Int):List Int:=if rightP l=true/\b<l.length then chn l (l.length+1) b else []
theorem aSb {l:List Int}{b:Int}(h:rightP l=false\/(l.length:Int)<=b):chain l b=[]:=by
 unfold chain;rw[if_neg];rintro ⟨h1,h2⟩
 rcases h with h | h
 ·rw[h1] at h;cases h
 omega
theorem aLt {l:List Int}{b:Int}(h:b<0):chain l b=[]:=by
 unfold chain
 split
 ·simp only[chn];rw[if_pos h]
 rfl
theorem aDc {l:List Int}{b:Int}(h:rightP l=true)(h0:0<=b)(h1:b<l.length):chain l b=b::chain l (par l b):=by
 have hp:=aBh h h0 h1
 unfold chain
 rw[if_pos ⟨h,h1⟩,if_pos ⟨h,by omega⟩]
 conv=>lhs;simp only[chn]
 rw[if_neg (by omega),aXu h l.length (l.length+1) (par l b) (by omega) (by omega) (by omega)]
theorem aIa {l:List Int}(h:rightP l=true){p:Int->Prop}(hneg:∀b:Int,b<0->p b)(hstep:∀b:Int,0<=b->b<l.length->p (par l b)->p b):∀(n:Nat) (b:Int),b<n->b<l.length->p b
 | 0,b,h1,_=>hneg b (by omega)
 | n+1,b,h1,h2=>by
  by_cases hb:b<0
  ·exact hneg b hb
  have:=aBh h (i:=b) (by omega) h2
  exact hstep b (by omega) h2 (aIa h hneg hstep n (par l b) (by omega) (by omega))
theorem aFe {l:List Int}{b x:Int}(hx:x∈chain l b):rightP l=true/\0<=x/\x<=b/\b<l.length:=by
 by_cases h:rightP l=true/\b<l.length
 ·refine ⟨h.1,?_⟩
  suffices hh:0<=x/\x<=b from ⟨hh.1,hh.2,h.2⟩
  revert hx
  refine aIa h.1 (p:=fun b=>x∈chain l b->0<=x/\x<=b) (fun b hb hx=>?_) (fun b h0 h1 ih hx=>?_) (b.toNat+1) b (by omega) h.2
  ·rw[aLt hb] at hx;cases hx
  rw[aDc h.1 h0 h1] at hx
  have hp:=aBh h.1 h0 h1
  rcases List.mem_cons.1 hx with rfl | hx
  ·omega
  have:=ih hx;omega
 unfold chain at hx;rw[if_neg h] at hx;cases hx
theorem aMh {l:List Int}{b:Int}:(chain l b).length<=l.length:=by
 by_cases h:rightP l=true/\b<l.length
 ·have:(chain l b).length<=b.toNat+1/\(b<0->chain l b=[]):=by
   refine aIa h.1 (p:=fun b=>(chain l b).length<=b.toNat+1/\(b<0->chain l b=[])) (fun b hb=>?_) (fun b h0 h1 ih=>?_) (b.toNat+1) b (by omega) h.2
   ·rw[aLt hb];simp
   have hp:=aBh h.1 h0 h1
   rw[aDc h.1 h0 h1]
   refine ⟨?_,fun h=>by omega⟩
   rw[List.length_cons]
   by_cases hn:par l b<0
   ·rw[ih.2 hn];simp
   omega
  by_cases hb:b<0
  ·rw[this.2 hb];simp
  omega
 unfold chain;rw[if_neg h];simp
def above (l:List Int)(a b:Int):Bool:=decide (a∈chain l b)
theorem aXi {l:List Int}{a b:Int}(h:rightP l=true)(ha:0<=a)(hb:a<b)(h1:b<l.length):above l a b=above l a (par l b):=by
 unfold above
 rw[aDc h (by omega) h1]
 refine decide_eq_decide.2 ⟨fun hx=>?_,fun hx=>List.mem_cons_of_mem _ hx⟩
 rcases List.mem_cons.1 hx with rfl | hx
 ·omega
 exact hx
theorem aSo {l:List Int}{a b:Int}(h:rightP l=true)(ha:0<=a)(hb:b<=a)(h1:b<l.length):above l a b=decide (a=b):=by
 unfold above
 refine decide_eq_decide.2 ⟨fun hx=>?_,?_⟩
 ·have:=aFe hx;omega
 rintro rfl
 rw[aDc h ha h1];simp
theorem aRb {l:List Int}{a b:Int}(h:¬(rightP l=true/\0<=a/\a<l.length/\0<=b/\b<l.length)):above l a b=false:=by
 unfold above
 refine decide_eq_false fun hx=>h ?_
 have:=aFe hx
 exact ⟨this.1,by omega,by omega,by omega,by omega⟩
def liveL (l:List Int)(ms:List MV):List Int:=if rightP l=true then ((List.range l.length).map Int.ofNat).filter fun i=>!obsM ms i else []
def liveTo (ms:List MV)(k:Nat):List Int:=((List.range k).map Int.ofNat).filter fun i=>!obsM ms i
theorem aVa (ms:List MV)(k:Nat):liveTo ms (k+1)=liveTo ms k++if obsM ms k=true then [] else [(k:Int)]:=by
 unfold liveTo
 rw[List.range_succ,List.map_append,List.filter_append]
 congr 1
 cases h:obsM ms k with
 | false=>simp[h]
 | true=>simp[h]
theorem aLv {l:List Int}{ms:List MV}{i:Int}:i∈liveL l ms↔rightP l=true/\0<=i/\i<l.length/\obsM ms i=false:=by
 unfold liveL
 split
 ·rename_i h
  rw[List.mem_filter,List.mem_map]
  constructor
  ·rintro ⟨⟨k,hk,rfl⟩,ho⟩
   have:=List.mem_range.1 hk
   exact ⟨h,by simp,by simpa using this,by simpa using ho⟩
  rintro ⟨_,h0,h1,ho⟩
  exact ⟨⟨i.toNat,List.mem_range.2 (by omega),by simp;omega⟩,by simpa using ho⟩
 rename_i h;simp[h]
theorem bAz (l:List Int)(ms:List MV):(liveL l ms).length<=l.length:=by
 unfold liveL
 split
 ·refine Nat.le_trans (List.length_filter_le _ _) (by simp)
 simp
def mvF (l:List Int)(ms:List MV)(s:Int):Nat->Int->Bool
 | 0,_=>false
 | f+1,k=>!obsM ms k && (decide (k=s) || (decide (s<=par l k) && mvF l ms s f (par l k)))
theorem aWf {l:List Int}{ms:List MV}{s:Int}(h:rightP l=true)(hs:0<=s):∀(f f':Nat) (b:Int),b<f->b<f'->0<=b->b<l.length->mvF l ms s f b=mvF l ms s f' b
 | 0,_,b,h1,_,h0,_=>by omega
 | f+1,0,b,_,h2,h0,_=>by omega
 | f+1,f'+1,b,h1,h2,h0,h3=>by
  simp only[mvF]
  have hp:=aBh h (i:=b) (by omega) h3
  by_cases hc:s<=par l b
  ·rw[aWf h hs f f' (par l b) (by omega) (by omega) (by omega) (by omega)]
  rw[decide_eq_false hc];simp
def mv (l:List Int)(ms:List MV)(s k:Int):Bool:=mvF l ms s (l.length+1) k
theorem bJo {l:List Int}{ms:List MV}{s k:Int}(h:rightP l=true)(hs:0<=s)(h0:0<=k)(h1:k<l.length) :
  mv l ms s k=(!obsM ms k && (decide (k=s) || (decide (s<=par l k) && mv l ms s (par l k)))):=by
 have hp:=aBh h h0 h1
 unfold mv
 conv=>lhs;simp only[mvF]
 by_cases hc:s<=par l k
 ·rw[aWf h hs l.length (l.length+1) (par l k) (by omega) (by omega) (by omega) (by omega)]
 rw[decide_eq_false hc];simp
def movedTo (l:List Int)(ms:List MV)(s:Int)(k:Nat):List Int:=((List.range k).map Int.ofNat).filter fun i=>decide (s<=i) && mv l ms s i
def moved (l:List Int)(ms:List MV)(s:Int):List Int:=if rightP l=true/\0<=s/\s<l.length then movedTo l ms s l.length else []
theorem aRo (l:List Int)(ms:List MV)(s:Int)(k:Nat):movedTo l ms s (k+1)=movedTo l ms s k++if (decide (s<=(k:Int)) && mv l ms s k)=true then [(k:Int)] else []:=by
 unfold movedTo
 rw[List.range_succ,List.map_append,List.filter_append]
 congr 1
 by_cases h:(decide (s<=(k:Int)) && mv l ms s k)=true
 ·rw[if_pos h];simp only[List.map_cons,List.map_nil];rw[List.filter_cons_of_pos (by exact h)];rfl
 rw[if_neg h];simp only[List.map_cons,List.map_nil];rw[List.filter_cons_of_neg (by exact h)];rfl
theorem aSp {l:List Int}{ms:List MV}{s:Int}{k:Nat}(h:(k:Int)<=s):movedTo l ms s k=[]:=by
 unfold movedTo
 rw[List.filter_eq_nil_iff]
 intro x hx
 obtain ⟨j,hj,rfl⟩:=List.mem_map.1 hx
 have:=List.mem_range.1 hj
 simp;omega
theorem aEw (l:List Int)(ms:List MV)(s:Int)(k:Nat):(movedTo l ms s k).length<=k:=by
 unfold movedTo;refine Nat.le_trans (List.length_filter_le _ _) (by simp)
theorem aId {l:List Int}{ms:List MV}{s x:Int}:x∈moved l ms s↔(rightP l=true/\0<=s/\s<l.length)/\s<=x/\x<l.length/\mv l ms s x=true:=by
 unfold moved
 split
 ·rename_i h
  unfold movedTo
  rw[List.mem_filter,List.mem_map]
  constructor
  ·rintro ⟨⟨k,hk,rfl⟩,ho⟩
   have:=List.mem_range.1 hk
   simp only[Bool.and_eq_true,decide_eq_true_eq] at ho
   exact ⟨h,ho.1,by simpa using this,ho.2⟩
  rintro ⟨_,h0,h1,ho⟩
  exact ⟨⟨x.toNat,List.mem_range.2 (by omega),by simp;omega⟩,by simp[h0,ho]⟩
 rename_i h;simp[h]
theorem aJu (l:List Int)(ms:List MV)(s:Int):(moved l ms s).Pairwise (·<·):=by
 unfold moved
 split
 ·unfold movedTo
  refine List.Pairwise.filter _ ?_
  rw[List.pairwise_map]
  exact List.pairwise_lt_range.imp fun h=>by simpa using h
 simp
def okTo (ms:List MV)(s:Int):List Int->Bool
 | []=>true
 | c::r=>!obsM ms c && (decide (c=s) || okTo ms s r)
theorem bCx {l:List Int}{ms:List MV}{s:Int}(h:rightP l=true)(hs:0<=s){k:Int}(h0:0<=k)(h1:k<l.length)(hk:s<=k):(above l s k && okTo ms s (chain l k))=mv l ms s k:=by
 have main:∀b:Int,b<l.length->0<=b->s<=b->(above l s b && okTo ms s (chain l b))=mv l ms s b:=by
  intro b hb
  refine aIa h (p:=fun b=>0<=b->s<=b->(above l s b && okTo ms s (chain l b))=mv l ms s b) (fun b hb h0 _=>by omega) (fun b h0 h1 ih _ hsb=>?_) (b.toNat+1) b (by omega) hb
  have hp:=aBh h h0 h1
  rw[bJo h hs h0 h1,aDc h h0 h1]
  simp only[okTo]
  by_cases e:b=s
  ·subst e
   have:above l b b=true:=by rw[aSo h h0 (Int.le_refl _) h1];simp
   rw[this];simp
  rw[decide_eq_false e,aXi h hs (by omega) h1]
  simp only[Bool.false_or]
  by_cases hc:s<=par l b
  ·rw[decide_eq_true hc,<-ih (by omega) hc]
   cases above l s (par l b)<;>simp
  rw[decide_eq_false hc]
  have:above l s (par l b)=false:=by
   unfold above
   refine decide_eq_false fun hx=>?_
   have:=aFe hx;omega
  rw[this];simp
 exact main k h1 h0 hk
inductive TargetIs (l:List Int) (ms:List MV):Int->Int->Prop
 | out {i:Int}:(rightP l=false\/i<0\/(l.length:Int)<=i)->TargetIs l ms i (-1)
 | here {i t:Int} {f:List Int}:rightP l=true->0<=i->i<l.length->FinalIs ms i f->f.getLast? = some t->TargetIs l ms i t
 | up {i t:Int}:rightP l=true->0<=i->i<l.length->FinalIs ms i []->TargetIs l ms (par l i) t->TargetIs l ms i t
def IsOrph (l:List Int)(ms:List MV)(i t:Int):Prop:=
 0<=par l i/\obsM ms i=false/\obsM ms (par l i)=true/\TargetIs l ms (par l i) t/\t≠i/\above l i t=false
inductive OrphanIs (l:List Int) (ms:List MV):Int->Int->Bool->Prop
 | none_:(rightP l=true->∀i:Nat,i<l.length->∀t,¬IsOrph l ms i t)->OrphanIs l ms (-1) (-1) false
 | some_ {i:Nat} {t:Int}:rightP l=true->i<l.length->IsOrph l ms i t->(∀j:Nat,j<i->∀t,¬IsOrph l ms j t)->OrphanIs l ms i t true
abbrev Bs:=List UInt8
def parts:Bs->List Bs
 | []=>[[]]
 | c::cs=>if c=47 then []::parts cs else match parts cs with
  | h::t=>(c::h)::t
  | []=>[[c]]
theorem aWv (s:Bs):parts s≠[]:=by
 cases s with
 | nil=>simp[parts]
 | cons c cs=>
  unfold parts
  by_cases h:c=47
  ·rw[if_pos h];simp
  rw[if_neg h];split<;>simp
theorem aIv:∀{s:Bs},47∉s->parts s=[s]
 | [],_=>rfl
 | c::cs,h=>by
  have hc:c≠47:=fun e=>h (by simp[e])
  rw[parts,if_neg hc,aIv (s:=cs) fun hm=>h (List.mem_cons_of_mem _ hm)]
theorem aNd:∀{a:Bs} (b:Bs),47∉a->parts (a++47::b)=a::parts b
 | [],b,_=>by rw[List.nil_append,parts,if_pos rfl]
 | c::cs,b,h=>by
  have hc:c≠47:=fun e=>h (by simp[e])
  rw[List.cons_append,parts,if_neg hc,aNd (a:=cs) b fun hm=>h (List.mem_cons_of_mem _ hm)]
theorem aGs:∀(s:Bs) p,p∈parts s->47∉p
 | [],p,h=>by simp[parts] at h;subst h;simp
 | c::cs,p,h=>by
  unfold parts at h
  by_cases hc:c=47
  ·rw[if_pos hc] at h
   rcases List.mem_cons.1 h with rfl | h
   ·simp
   exact aGs cs p h
  rw[if_neg hc] at h
  have ih:=aGs cs
  split at h
  ·rename_i h0 t e
   rcases List.mem_cons.1 h with rfl | h
   ·intro hm
    rcases List.mem_cons.1 hm with e2 | e2
    ·exact hc e2.symm
    exact ih h0 (by rw[e];exact List.mem_cons_self ..) e2
   exact ih p (by rw[e];exact List.mem_cons_of_mem _ h)
  rename_i e;exact absurd e (aWv cs)
def tailJ (ss:List Bs):Bs:=ss.flatMap (47::·)
theorem aDu:∀(s:Bs),∃p ps,parts s=p::ps/\s=p++tailJ ps
 | []=>⟨[],[],rfl,rfl⟩
 | c::cs=>by
  obtain ⟨p,ps,h1,h2⟩:=aDu cs
  unfold parts
  by_cases hc:c=47
  ·rw[if_pos hc]
   refine ⟨[],parts cs,rfl,?_⟩
   rw[h1,tailJ,List.flatMap_cons,<-tailJ,hc,List.nil_append]
   simp[<-h2]
  rw[if_neg hc,h1]
  exact ⟨c::p,ps,rfl,by rw[List.cons_append,<-h2]⟩
theorem aTe:∀{s:Bs},47∈s->∃a b,s=a++47::b/\47∉a
 | c::cs,h=>by
  by_cases hc:c=47
  ·exact ⟨[],cs,by rw[hc];rfl,by simp⟩
  obtain ⟨a,b,e,ha⟩:=aTe (s:=cs) (by rcases List.mem_cons.1 h with e | e;exact absurd e.symm hc;exact e)
  exact ⟨c::a,b,by rw[e];rfl,fun hm=>by rcases List.mem_cons.1 hm with e | e;exact hc e.symm;exact ha e⟩
theorem aOc:∀{a:Bs} (b:Bs),47∉a->Lib.index (a++47::b) [47]=a.length
 | [],b,_=>by rw[List.nil_append,Lib.index];simp[List.isPrefixOf]
 | c::cs,b,h=>by
  have hc:c≠47:=fun e=>h (by simp[e])
  have hc2:((47:UInt8) == c)=false:=by simp;exact fun e=>hc e.symm
  have ih:=aOc (a:=cs) b fun hm=>h (List.mem_cons_of_mem _ hm)
  rw[List.cons_append,Lib.index,ih]
  simp[List.isPrefixOf,hc2]
theorem aKf:∀(k:Nat) (s:Bs),s.count 47=k->Lib.splitK [47] 0 k s=parts s
 | 0,s,h=>by
  rw[aIv (List.count_eq_zero.1 h)];rfl
 | k+1,s,h=>by
  have hm:47∈s:=by
   rw[<-List.count_pos_iff];omega
  obtain ⟨a,b,rfl,ha⟩:=aTe hm
  have hb:b.count 47=k:=by
   rw[List.count_append,List.count_cons_self,List.count_eq_zero.2 ha] at h;omega
  rw[aNd b ha,Lib.splitK,aOc b ha,if_neg (by simp)]
  have e:((a.length:Int)).toNat=a.length:=by omega
  rw[e,Nat.add_zero,List.take_left,List.length_singleton,List.drop_append,List.drop_of_length_le (by omega),Nat.add_sub_cancel_left,List.nil_append]
  rw[show List.drop 1 (47::b)=b from rfl,aKf k b hb]
theorem aUl (s:ByteArray):(Lib.splitB ⟨#[47]⟩ 0 (Lib.countB s ⟨#[47]⟩) s).map (·.data.toList)=parts s.data.toList:=by
 rw[Lib.splitB_data]
 refine aKf _ _ ?_
 rw[<-Lib.count_one]
def byteOk (c:UInt8):Bool:=decide (33<=c.toNat) && decide (c.toNat<=126)
def partOk (p:Bs):Bool:=!decide (p=[]) && !decide (p=[46]) && !decide (p=[46,46])
def pathOk (s:Bs):Bool:=decide (1<=s.length) && decide (s.length<=100) && s.all byteOk && (parts s).all partOk
def within (p d:Bs):Bool:=(d++[47]).isPrefixOf p
theorem aGn {p d:Bs}:within p d=true↔∃r,p=d++47::r:=by
 rw[within,List.isPrefixOf_iff_prefix]
 constructor
 ·rintro ⟨r,h⟩;exact ⟨r,by rw[<-h];simp⟩
 rintro ⟨r,h⟩;exact ⟨r,by rw[h];simp⟩
theorem aRj {p d:Bs}(h:within p d=true):d.length<p.length:=by
 obtain ⟨r,rfl⟩:=aGn.1 h
 simp
def way (m:Bs->Bool)(at_:Bs):List Bs->Bool
 | []=>false
 | s::ss=>m at_ || way m (at_++47::s) ss
theorem bEl {m:Bs->Bool}:∀{ss:List Bs} {at_:Bs},(∀s∈ss,47∉s)->(way m at_ ss=true↔∃q r,m q=true/\at_.length<=q.length/\at_++tailJ ss=q++47::r)
 | [],at_,_=>by
  constructor
  ·intro h;cases h
  rintro ⟨q,r,_,hl,e⟩
  have:=congrArg List.length e
  simp[tailJ] at this;omega
 | s::ss,at_,hc=>by
  have ih:=bEl (m:=m) (ss:=ss) (at_:=at_++47::s) fun x hx=>hc x (List.mem_cons_of_mem _ hx)
  have hJ:at_++tailJ (s::ss)=(at_++47::s)++tailJ ss:=by simp[tailJ]
  rw[way,Bool.or_eq_true,ih,hJ]
  constructor
  ·rintro (h | ⟨q,r,h1,h2,h3⟩)
   ·exact ⟨at_,s++tailJ ss,h,Nat.le_refl _,by simp⟩
   exact ⟨q,r,h1,by simp at h2;omega,h3⟩
  rintro ⟨q,r,h1,h2,h3⟩
  by_cases hq:q.length=at_.length
  ·left
   have:(at_++47::s++tailJ ss).take at_.length=(q++47::r).take at_.length:=by rw[h3]
   rw[<-hq] at this
   simp[hq] at this
   rw[this];exact h1
  refine .inr ⟨q,r,h1,?_,h3⟩
  rcases Nat.lt_or_ge q.length (at_++47::s).length with hlt | hge
  ·exfalso
   have hg:(at_++47::s++tailJ ss)[q.length]? = some 47:=by rw[h3];simp
   rw[List.getElem?_append_left hlt,List.getElem?_append_right h2] at hg
   obtain ⟨j,hj⟩:∃j,q.length-at_.length=j+1:=⟨q.length-at_.length-1,by omega⟩
   rw[hj,List.getElem?_cons_succ] at hg
   exact hc s (List.mem_cons_self ..) (List.mem_of_getElem? hg)
  exact hge
theorem bDp {m:Bs->Bool}{p s:Bs}{ss:List Bs}(h:parts p=s::ss):way m s ss=true↔∃q,m q=true/\within p q=true:=by
 obtain ⟨s',ss',h1,h2⟩:=aDu p
 rw[h] at h1
 injection h1 with e1 e2
 subst e1 e2
 have hc:∀x,x∈s::ss->47∉x:=fun x hx=>aGs p x (by rw[h];exact hx)
 rw[bEl fun x hx=>hc x (List.mem_cons_of_mem _ hx)]
 constructor
 ·rintro ⟨q,r,h3,_,h4⟩
  exact ⟨q,h3,aGn.2 ⟨r,by rw[h2];exact h4⟩⟩
 rintro ⟨q,h3,h4⟩
 obtain ⟨r,hr⟩:=aGn.1 h4
 refine ⟨q,r,h3,?_,by rw[<-h2];exact hr⟩
 rcases Nat.lt_or_ge q.length s.length with hlt | hge
 ·exfalso
  have hg:(s++tailJ ss)[q.length]? = some 47:=by rw[<-h2,hr];simp
  rw[List.getElem?_append_left hlt] at hg
  exact hc s (List.mem_cons_self ..) (List.mem_of_getElem? hg)
 exact hge
structure FV where
 path:ByteArray
 exec:Bool
 text:ByteArray
deriving DecidableEq
def FV.cells (f:FV):List Value:=[.string f.path,.bool f.exec,.string f.text]
def FV.p (f:FV):Bs:=f.path.data.toList
def bl (a b:Bs):Bool:=decide (a<b)
def FileOk (f:FV):Prop:=pathOk f.p=true/\f.text.size<=20000
def Rise (l:List FV):Prop:=∀i a b,l[i]? = some a->l[i+1]? = some b->a.p<b.p
def TreeOk (l:List FV):Prop:=l.length<=100/\(∀f∈l,FileOk f)/\Rise l/\∀f∈l,∀g∈l,within f.p g.p=false
open Classical in
noncomputable def treeOk (l:List FV):Bool:=decide (TreeOk l)
theorem aAt {l:List FV}:treeOk l=true↔TreeOk l:=by simp[treeOk]
def clashP (a b:Bs):Bool:=decide (a=b) || within a b || within b a
theorem aEr {a b c:Bs}(h1:a<b)(h2:b<c):a<c:=List.lt_trans h1 h2
theorem Rise.lt {l:List FV}(h:Rise l):∀{i j:Nat} {a b:FV},i<j->l[i]? = some a->l[j]? = some b->a.p<b.p:=by
 intro i j
 induction j with
 | zero=>intro a b hij;omega
 | succ j ih=>
  intro a b hij ha hb
  have hj:j<l.length:=by have:=(List.getElem?_eq_some_iff.1 hb).1;omega
  by_cases e:i=j
  ·subst e;exact h i a b ha hb
  exact aEr (ih (by omega) ha (List.getElem?_eq_getElem hj)) (h j _ b (List.getElem?_eq_getElem hj) hb)
theorem aGy {a b:Bs}(h:a<b):a≠b:=fun e=>by subst e;exact List.lt_irrefl _ h
theorem aZe {l:List FV}(hl:l.length<=100)(hf:∀f∈l,FileOk f)(hr:Rise l)(hp:∀(i j:Nat)(a b:FV),j<i->l[i]? = some a->l[j]? = some b->clashP b.p a.p=false):TreeOk l:=by
 refine ⟨hl,hf,hr,fun f h1 g h2=>?_⟩
 obtain ⟨i,hi,rfl⟩:=List.getElem_of_mem h1
 obtain ⟨j,hj,rfl⟩:=List.getElem_of_mem h2
 rcases Nat.lt_trichotomy i j with h | h | h
 ·have:=hp j i _ _ h (List.getElem?_eq_getElem hj) (List.getElem?_eq_getElem hi)
  simp only[clashP,Bool.or_eq_false_iff] at this
  exact this.1.2
 ·subst h
  cases e:within l[i].p l[i].p with
  | false=>rfl
  | true=>have:=aRj e;omega
 have:=hp i j _ _ h (List.getElem?_eq_getElem hi) (List.getElem?_eq_getElem hj)
 simp only[clashP,Bool.or_eq_false_iff] at this
 exact this.2
theorem TreeOk.pair {l:List FV}(h:TreeOk l){i j:Nat}{a b:FV}(hij:j<i)(ha:l[i]? = some a)(hb:l[j]? = some b):clashP b.p a.p=false:=by
 have h1:=h.2.2.2 b (List.mem_of_getElem? hb) a (List.mem_of_getElem? ha)
 have h2:=h.2.2.2 a (List.mem_of_getElem? ha) b (List.mem_of_getElem? hb)
 simp[clashP,h1,h2,aGy (h.2.2.1.lt hij hb ha)]
def cells8 (l:Bs):List Value:=l.map fun b=>.int .u8 (b.toNat:Int)
theorem aNt (l:Bs):(cells8 l).length=l.length:=List.length_map _
theorem rd8 {w:World}{B n c:Nat}{A:Option Addr}{l:Bs}(h:Rd w B 1 A n c (cells8 l)){k:Nat}(hk:k<n) :
  ∃b o u,A=some ⟨b,o,none⟩/\b<B/\l[k]? = some u/\w.cell? ⟨b,o+k,none⟩=some (.int .u8 u.toNat):=by
 obtain ⟨b,o,v,e,hb,hv,hc⟩:=h.one hk
 rw[cells8,List.getElem?_map,Option.map_eq_some_iff] at hv
 obtain ⟨u,hu,rfl⟩:=hv
 exact ⟨b,o,u,e,hb,hu,hc⟩
theorem aHq (c:UInt8):byteOk c=(decide ((33:Int)<=c.toNat) && decide ((c.toNat:Int)<=126)):=by
 rw[byteOk];congr 1<;>exact decide_eq_decide.2 (by omega)
theorem aWa (c:UInt8)(w:World):Calls Tryz.prog 124 #[.int .u8 c.toNat] w fun e w'=>e=.returned (.bool (!byteOk c))/\w'=w:=by
 have hb:(c.toNat:Int)<256:=by have:=c.toNat_lt;omega
 have HO:=hid (aHq c)
 generalize (c.toNat:Int)=z at *
 go_enter Tryz.func124,Tryz.ntmps124
 by_cases h1:z<33
 ·go_wp2
  go_ret
  refine ⟨aAf ?_,rfl⟩
  rw[HO.out,decide_eq_false (by omega)];rfl
 by_cases h2:126<z
 ·go_wp2
  go_ret
  refine ⟨aAf ?_,rfl⟩
  rw[HO.out,decide_eq_false (p:=z<=126) (by omega),Bool.and_false];rfl
 go_wp2
 go_ret
 refine ⟨aAf ?_,rfl⟩
 rw[HO.out,decide_eq_true (by omega),decide_eq_true (by omega)];rfl
def PlaceOf (bad:Bool)(n:Nat)(w:World)(e:Ending) (w':World):Prop:=∃k:Int,e=.returned (.int .i64 k)/\bad=decide (0<=k)/\-1<=k/\k<=n/\Below w.heap.size w w'
theorem aZm {A:Option Addr}{n c BB:Nat}{l:Bs}{w:World}(hn:n<=maxLen)(hBB:BB<=w.heap.size)(h:Rd w BB 1 A n c (cells8 l)) :
  Calls Tryz.prog 147 #[.slice A n c,.func (.func 124) #[] #[]] w (PlaceOf (!l.all byteOk) n w):=by
 have HL:=hid (show l.length=n by have:=h.len;rw[aNt] at this;omega)
 unfold maxLen at hn
 go_enter Tryz.func147,Tryz.ntmps147
 go_wp2
 go_loopw[8] (fun i wr=>∃k:Nat,k<=n/\i=.int .i64 k/\Below w.heap.size w wr/\Hid (∀u∈l.take k,byteOk u=true)) (fun i _=>n-(intOf i).toNat)
 case atStart=>exact ⟨0,Nat.zero_le _,rfl,Below.refl _ _,by rw[List.take_zero];intro m hm;cases hm⟩
 obtain ⟨k,hk,rfl,hb,hj⟩:=hrel
 by_cases hlt:k<n
 ·obtain ⟨b0,o0,u,rfl,hbb,hx,h0⟩:=rd8 h hlt
  replace h0:=(hb.cell (p:=⟨b0,o0+k,none⟩) (by show b0<_;omega)).trans h0
  have HX:=hid hx;clear hx
  go_wp2_with fail
  refine (aWa u _).mono ?_
  rintro e w1 ⟨rfl,rfl⟩
  cases hd:byteOk u
  ·have HD:=hid hd
   clear hd
   go_wp2
   go_ret
   refine ⟨k,rfl,?_,by omega,by omega,hb⟩
   rw[decide_eq_true (by omega),Bool.not_eq_true',List.all_eq_false]
   exact ⟨u,List.mem_of_getElem? HX.out,by rw[HD.out];simp⟩
  have HD:=hid hd
  clear hd
  go_wp2
  go_roundw
  case rel=>
   refine ⟨k+1,by omega,by go_num,hb,?_⟩
   intro m hm
   rw[List.take_add_one,HX.out] at hm
   rcases List.mem_append.1 hm with hm | hm
   ·exact hj m hm
   simp at hm;subst hm;exact HD.out
  simp[intOf];omega
 have hkn:k=n:=by omega
 subst hkn
 go_wp2
 go_ret
 refine ⟨-1,rfl,?_,by omega,by omega,hb⟩
 rw[decide_eq_false (by omega)]
 have:=hj.out
 rw[List.take_of_length_le (by rw[HL.out];omega)] at this
 rw[List.all_eq_true.2 this];rfl
end Go.Proofs.YtohblmepajhpaaaGreatDoor
