/- What a view is made of, and how it lies in memory. -/
import Derived.Test.YtnkboccngialiaaDoorEF
import Derived.Test.YtnkboccngialiaaDoorEN
import Derived.Test.YtnkboccngialiaaDoorEC
namespace Go.Proofs.YtnkboccngialiaaDoor
open Go.RowKit

structure SV where
  commit : Int
  A : Option Addr
  c : Nat
  files : List FV
def SV.cells (x : SV) : List Value := [.int .i64 x.commit, .slice x.A x.files.length x.c]
theorem SV.cells_len (x : SV) : x.cells.length = 2 := rfl
def SV.In (w : World) (B : Nat) (x : SV) : Prop := RdF w B x.A x.files.length x.c x.files ∧ x.files.length ≤ 17592186044416
def eqSV (x y : SV) : Bool := decide (x.commit = y.commit) && decide (x.files = y.files)
structure EV where
  num : Int
  parent : Int
  msg : ByteArray
  A : Option Addr
  c : Nat
  files : List FV
  obs : Bool
def EV.cells (x : EV) : List Value := [.int .i64 x.num, .int .i64 x.parent, .string x.msg, .slice x.A x.files.length x.c, .bool x.obs]
theorem EV.cells_len (x : EV) : x.cells.length = 5 := rfl
def EV.In (w : World) (B : Nat) (x : EV) : Prop := RdF w B x.A x.files.length x.c x.files ∧ x.files.length ≤ 17592186044416
def eqEV (x y : EV) : Bool := decide (x.num = y.num) && decide (x.parent = y.parent) && decide (x.msg = y.msg) && decide (x.obs = y.obs) && decide (x.files = y.files)
structure PV where
  on : Bool
  restack : Bool
  source : Int
  dest : Int
  sA : Option Addr
  sc : Nat
  settled : List SV
  commit : Int
  kA : Option Addr
  kc : Nat
  clashes : List CV
def PV.vals (x : PV) : Array Value := #[.bool x.on, .bool x.restack, .int .i64 x.source, .int .i64 x.dest, .slice x.sA x.settled.length x.sc, .int .i64 x.commit, .slice x.kA x.clashes.length x.kc]
structure PV.In (w : World) (B : Nat) (x : PV) : Prop where
  s : Rd w B 2 x.sA x.settled.length x.sc (x.settled.flatMap SV.cells)
  each : ∀ y ∈ x.settled, y.In w B
  k : Rd w B 3 x.kA x.clashes.length x.kc (x.clashes.flatMap CV.cells)
  ls : x.settled.length ≤ 17592186044416
  lk : x.clashes.length ≤ 17592186044416
def eqPV (x y : PV) : Bool := decide (x.on = y.on) && decide (x.restack = y.restack) && decide (x.source = y.source) && decide (x.dest = y.dest) && decide (x.commit = y.commit) && lall2 eqSV x.settled y.settled && decide (x.clashes = y.clashes)
structure VV where
  A : Option Addr
  c : Nat
  commits : List EV
  mA : Option Addr
  mc : Nat
  marks : List NV
  working : Int
  pend : PV
  undos : Int
  redos : Int
def VV.vals (x : VV) : Array Value := #[.slice x.A x.commits.length x.c, .slice x.mA x.marks.length x.mc, .int .i64 x.working, .bool x.pend.on, .bool x.pend.restack, .int .i64 x.pend.source, .int .i64 x.pend.dest, .slice x.pend.sA x.pend.settled.length x.pend.sc, .int .i64 x.pend.commit, .slice x.pend.kA x.pend.clashes.length x.pend.kc, .int .i64 x.undos, .int .i64 x.redos]
structure VV.In (w : World) (B : Nat) (x : VV) : Prop where
  row : Rd w B 5 x.A x.commits.length x.c (x.commits.flatMap EV.cells)
  each : ∀ y ∈ x.commits, y.In w B
  marks : Rd w B 2 x.mA x.marks.length x.mc (x.marks.flatMap NV.cells)
  pend : x.pend.In w B
  lc : x.commits.length ≤ 17592186044416
  lm : x.marks.length ≤ 17592186044416
  fits : ∀ y ∈ x.marks, y.name.size ≤ 140737488351232
def heldVV (x y : VV) : Bool := lall2 eqEV x.commits y.commits && decide (x.marks = y.marks) && decide (x.working = y.working) && eqPV x.pend y.pend
def eqVV (x y : VV) : Bool := heldVV x y && decide (x.undos = y.undos) && decide (x.redos = y.redos)
section
variable {w w' : World} {B B' : Nat}
theorem SV.In.to {x : SV} (h : x.In w B) (hb : Below B w w') (hB : B ≤ B') : x.In w' B' := ⟨h.1.to hb hB, h.2⟩
theorem EV.In.to {x : EV} (h : x.In w B) (hb : Below B w w') (hB : B ≤ B') : x.In w' B' := ⟨h.1.to hb hB, h.2⟩
theorem PV.In.to {x : PV} (h : x.In w B) (hb : Below B w w') (hB : B ≤ B') : x.In w' B' := ⟨h.s.to hb hB, fun y hy => (h.each y hy).to hb hB, h.k.to hb hB, h.ls, h.lk⟩
theorem VV.In.to {x : VV} (h : x.In w B) (hb : Below B w w') (hB : B ≤ B') : x.In w' B' := ⟨h.row.to hb hB, fun y hy => (h.each y hy).to hb hB, h.marks.to hb hB, h.pend.to hb hB, h.lc, h.lm, h.fits⟩
end
end Go.Proofs.YtnkboccngialiaaDoor
