/- Contracts of the library at this seat, laid by the shelf, in plain words. -/
import Derived.Shelf.Strings.Prefix
import Derived.Shelf.Sort.Plain
import Derived.Shelf.Slices.In.SortNone
import Derived.Test.YtahlfafcjjkliaaDoorRows
namespace Go.Proofs.YtahlfafcjjkliaaDoor
open Go.Shelf
def Tryd.lays190_ren : Go.Shelf.Ren := ⟨fun | 190 => 56 | 125 => 72 | 258 => 71 | 128 => 90 | 129 => 91 | 302 => 81 | 303 => 82 | 304 => 83 | 305 => 84 | 306 => 85 | 307 => 86 | 308 => 87 | 309 => 88 | 310 => 89 | 333 => 96 | 329 => 97 | 330 => 98 | 334 => 99 | 335 => 100 | 336 => 101 | 344 => 106 | n => n, fun | 31 => 50 | 9 => 9 | 3 => 3 | 46 => 47 | 0 => 0 | 51 => 104 | 53 => 106 | 4 => 4 | 183 => 97 | 182 => 96 | 131 => 101 | 5 => 5 | 218 => 110 | 222 => 114 | 228 => 118 | 229 => 119 | n => n, fun | n => n⟩
theorem Tryd.lays190 : Go.Proofs.Lays.n190 Tryd.prog Tryd.lays190_ren := {
  mixed := by kernel_rfl
  f125 := Tryd.func72.trans (congrArg some (by kernel_rfl))
  f128 := Tryd.func90.trans (congrArg some (by kernel_rfl))
  f129 := Tryd.func91.trans (congrArg some (by kernel_rfl))
  f190 := Tryd.func56.trans (congrArg some (by kernel_rfl))
  f258 := Tryd.func71.trans (congrArg some (by kernel_rfl))
  f302 := Tryd.func81.trans (congrArg some (by kernel_rfl))
  f303 := Tryd.func82.trans (congrArg some (by kernel_rfl))
  f304 := Tryd.func83.trans (congrArg some (by kernel_rfl))
  f305 := Tryd.func84.trans (congrArg some (by kernel_rfl))
  f306 := Tryd.func85.trans (congrArg some (by kernel_rfl))
  f307 := Tryd.func86.trans (congrArg some (by kernel_rfl))
  f308 := Tryd.func87.trans (congrArg some (by kernel_rfl))
  f309 := Tryd.func88.trans (congrArg some (by kernel_rfl))
  f310 := Tryd.func89.trans (congrArg some (by kernel_rfl))
  f329 := Tryd.func97.trans (congrArg some (by kernel_rfl))
  f330 := Tryd.func98.trans (congrArg some (by kernel_rfl))
  f333 := Tryd.func96.trans (congrArg some (by kernel_rfl))
  f334 := Tryd.func99.trans (congrArg some (by kernel_rfl))
  f335 := Tryd.func100.trans (congrArg some (by kernel_rfl))
  f336 := Tryd.func101.trans (congrArg some (by kernel_rfl))
  f344 := Tryd.func106.trans (congrArg some (by kernel_rfl))
  t0 := Tryd.underlying0
  a0 := Tryd.isAgg0
  z0 := Tryd.sizeOf0
  v0 := Tryd.zeroValue0
  t3 := Tryd.underlying3
  a3 := Tryd.isAgg3
  z3 := Tryd.sizeOf3
  v3 := Tryd.zeroValue3
  t4 := Tryd.underlying4
  a4 := Tryd.isAgg4
  z4 := Tryd.sizeOf4
  v4 := Tryd.zeroValue4
  t5 := Tryd.underlying5
  a5 := Tryd.isAgg5
  z5 := Tryd.sizeOf5
  v5 := Tryd.zeroValue5
  t9 := Tryd.underlying9
  a9 := Tryd.isAgg9
  z9 := Tryd.sizeOf9
  v9 := Tryd.zeroValue9
  t31 := Tryd.underlying50
  a31 := Tryd.isAgg50
  z31 := Tryd.sizeOf50
  v31 := Tryd.zeroValue50
  t46 := Tryd.underlying47
  a46 := Tryd.isAgg47
  z46 := Tryd.sizeOf47
  v46 := Tryd.zeroValue47
  t51 := Tryd.underlying104
  a51 := Tryd.isAgg104
  z51 := Tryd.sizeOf104
  v51 := Tryd.zeroValue104
  t53 := Tryd.underlying106
  a53 := Tryd.isAgg106
  z53 := Tryd.sizeOf106
  v53 := Tryd.zeroValue106
  t131 := Tryd.underlying101
  a131 := Tryd.isAgg101
  z131 := Tryd.sizeOf101
  v131 := Tryd.zeroValue101
  t182 := Tryd.underlying96
  a182 := Tryd.isAgg96
  z182 := Tryd.sizeOf96
  v182 := Tryd.zeroValue96
  t183 := Tryd.underlying97
  a183 := Tryd.isAgg97
  z183 := Tryd.sizeOf97
  v183 := Tryd.zeroValue97
  t218 := Tryd.underlying110
  a218 := Tryd.isAgg110
  z218 := Tryd.sizeOf110
  v218 := Tryd.zeroValue110
  t222 := Tryd.underlying114
  a222 := Tryd.isAgg114
  z222 := Tryd.sizeOf114
  v222 := Tryd.zeroValue114
  t228 := Tryd.underlying118
  a228 := Tryd.isAgg118
  z228 := Tryd.sizeOf118
  v228 := Tryd.zeroValue118
  t229 := Tryd.underlying119
  a229 := Tryd.isAgg119
  z229 := Tryd.sizeOf119
  v229 := Tryd.zeroValue119 }
open Go.Sort Go.RowKit in
theorem Tryd.slices_Sort_string (blk off cap : Nat) (ss : List (List UInt8)) (w : World) (hH : Holds encStr w blk off ss.toArray) (hblk : blk < w.heap.size) (hsz : ss.length < 4611686018427387904) :
    Calls Tryd.prog 56 #[.slice (some ⟨blk, off, none⟩) ss.length cap] w fun e w' =>
      e = .returned (.tuple #[]) ∧ ∃ n os, w' = grow (putRow encStr (Sort.ahead w n) blk off (ss.mergeSort fun x y => decide (x ≤ y)).toArray) os := Any.slices_Sort_string Tryd.lays190 blk off cap ss w hH hblk hsz
def Tryd.lays99_ren : Go.Shelf.Ren := ⟨fun | 99 => 94 | 206 => 105 | n => n, fun | 9 => 9 | 4 => 4 | 3 => 3 | n => n, fun | n => n⟩
theorem Tryd.lays99 : Go.Proofs.Lays.n99 Tryd.prog Tryd.lays99_ren := {
  mixed := by kernel_rfl
  f99 := Tryd.func94.trans (congrArg some (by kernel_rfl))
  f206 := Tryd.func105.trans (congrArg some (by kernel_rfl))
  t3 := Tryd.underlying3
  a3 := Tryd.isAgg3
  z3 := Tryd.sizeOf3
  v3 := Tryd.zeroValue3
  t4 := Tryd.underlying4
  a4 := Tryd.isAgg4
  z4 := Tryd.sizeOf4
  v4 := Tryd.zeroValue4
  t9 := Tryd.underlying9
  a9 := Tryd.isAgg9
  z9 := Tryd.sizeOf9
  v9 := Tryd.zeroValue9 }
open Go.RowKit Go.Lib in
/-- strings.HasPrefix: "HasPrefix reports whether the string s begins with prefix.": IT RETURNS 'Lib.hasPrefix s prefix'; the world is as it was. (LAID: no walk: one application.) -/
theorem Tryd.strings_HasPrefix (s p : ByteArray) (w : World) :
    Calls Tryd.prog 94 #[.string s, .string p] w fun e w' => e = .returned (.bool (Lib.hasPrefix s.data.toList p.data.toList)) ∧ w' = w := Any.strings_HasPrefix Tryd.lays99 s p w
open Go.RowKit Go.Sort in
/-- .. and plain. (LAID: no walk: one application.) -/
theorem Tryd.slices_Sort_string_none (p : Option Addr) (cap : Nat) (w : World) :
    Calls Tryd.prog 56 #[.slice p 0 cap] w fun e w' => e = .returned (.tuple #[]) ∧ w' = w := Any.slices_Sort_string_none Tryd.lays190 p cap w
end Go.Proofs.YtahlfafcjjkliaaDoor
