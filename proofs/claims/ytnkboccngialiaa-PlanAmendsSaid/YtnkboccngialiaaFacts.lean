/- What the engine asks of this seat's types: each by the kernel's own reckoning. Printed by a program (facts.py). -/
import Derived.Test.YtnkboccngialiaaEng
namespace Go.Proofs.Ytnkboccngialiaa
theorem qfacts :
    lz Try.prog 2 = some 0 ∧
    ikOf Try.prog 2 = some .i64 ∧
    (Try.prog.underlying 2).isSome = true ∧
    lz Try.prog 3 = some 0 ∧
    ikOf Try.prog 3 = some .i64 ∧
    (Try.prog.underlying 3).isSome = true ∧
    lz Try.prog 4 = some 0 ∧
    lz Try.prog 5 = some 0 ∧
    ikOf Try.prog 5 = some .u8 ∧
    (Try.prog.underlying 5).isSome = true ∧
    lz Try.prog 9 = some 0 ∧
    es Try.prog 9 = none ∧
    isStr Try.prog 9 = true ∧
    lz Try.prog 12 = some 0 ∧
    ikOf Try.prog 12 = some .u64 ∧
    (Try.prog.underlying 12).isSome = true ∧
    lz Try.prog 15 = some 0 ∧
    lz Try.prog 16 = some 0 ∧
    lz Try.prog 21 = some 0 ∧
    ikOf Try.prog 21 = some .i32 ∧
    (Try.prog.underlying 21).isSome = true ∧
    lz Try.prog 22 = some 0 ∧
    es Try.prog 22 = some 2 ∧
    isStr Try.prog 22 = false ∧
    ea Try.prog 22 = none ∧
    lz Try.prog 28 = some 0 ∧
    es Try.prog 28 = some 1 ∧
    isStr Try.prog 28 = false ∧
    ea Try.prog 28 = none ∧
    lz Try.prog 31 = some 0 ∧
    ikOf Try.prog 31 = some .u64 ∧
    (Try.prog.underlying 31).isSome = true ∧
    fo Try.prog 34 0 = some 0 ∧
    fo Try.prog 34 1 = some 1 ∧
    lz Try.prog 34 = some 3 ∧
    fo Try.prog 35 0 = some 0 ∧
    fo Try.prog 35 1 = some 1 ∧
    lz Try.prog 35 = some 3 ∧
    lz Try.prog 54 = some 0 ∧
    lz Try.prog 55 = some 0 ∧
    lz Try.prog 57 = some 0 ∧
    fo Try.prog 59 0 = some 0 ∧
    lz Try.prog 59 = some 2 ∧
    fo Try.prog 60 0 = some 0 ∧
    lz Try.prog 60 = some 2 ∧
    lz Try.prog 65 = some 0 ∧
    es Try.prog 65 = some 1 ∧
    isStr Try.prog 65 = false ∧
    ea Try.prog 65 = none ∧
    lz Try.prog 66 = some 0 ∧
    es Try.prog 66 = some 1 ∧
    isStr Try.prog 66 = false ∧
    ea Try.prog 66 = none ∧
    lz Try.prog 70 = some 0 ∧
    es Try.prog 70 = some 1 ∧
    isStr Try.prog 70 = false ∧
    ea Try.prog 70 = none ∧
    lz Try.prog 76 = some 0 ∧
    ikOf Try.prog 76 = some .u64 ∧
    (Try.prog.underlying 76).isSome = true ∧
    lz Try.prog 77 = some 0 ∧
    es Try.prog 77 = some 1 ∧
    isStr Try.prog 77 = false ∧
    ea Try.prog 77 = none ∧
    lz Try.prog 81 = some 0 ∧
    ikOf Try.prog 81 = some .i64 ∧
    (Try.prog.underlying 81).isSome = true ∧
    lz Try.prog 88 = some 0 ∧
    ikOf Try.prog 88 = some .u32 ∧
    (Try.prog.underlying 88).isSome = true ∧
    lz Try.prog 93 = some 0 ∧
    ikOf Try.prog 93 = some .u64 ∧
    (Try.prog.underlying 93).isSome = true ∧
    lz Try.prog 97 = some 0 ∧
    lz Try.prog 99 = some 0 ∧
    lz Try.prog 112 = some 0 ∧
    lz Try.prog 117 = some 0 :=
  ⟨by kernel_rfl, by kernel_rfl, by kernel_rfl, by kernel_rfl, by kernel_rfl, by kernel_rfl, by kernel_rfl, by kernel_rfl, by kernel_rfl, by kernel_rfl, by kernel_rfl, by kernel_rfl, by kernel_rfl, by kernel_rfl, by kernel_rfl, by kernel_rfl, by kernel_rfl, by kernel_rfl, by kernel_rfl, by kernel_rfl, by kernel_rfl, by kernel_rfl, by kernel_rfl, by kernel_rfl, by kernel_rfl, by kernel_rfl, by kernel_rfl, by kernel_rfl, by kernel_rfl, by kernel_rfl, by kernel_rfl, by kernel_rfl, by kernel_rfl, by kernel_rfl, by kernel_rfl, by kernel_rfl, by kernel_rfl, by kernel_rfl, by kernel_rfl, by kernel_rfl, by kernel_rfl, by kernel_rfl, by kernel_rfl, by kernel_rfl, by kernel_rfl, by kernel_rfl, by kernel_rfl, by kernel_rfl, by kernel_rfl, by kernel_rfl, by kernel_rfl, by kernel_rfl, by kernel_rfl, by kernel_rfl, by kernel_rfl, by kernel_rfl, by kernel_rfl, by kernel_rfl, by kernel_rfl, by kernel_rfl, by kernel_rfl, by kernel_rfl, by kernel_rfl, by kernel_rfl, by kernel_rfl, by kernel_rfl, by kernel_rfl, by kernel_rfl, by kernel_rfl, by kernel_rfl, by kernel_rfl, by kernel_rfl, by kernel_rfl, by kernel_rfl, by kernel_rfl, by kernel_rfl, by kernel_rfl⟩
theorem mixed : Try.prog.follows .mixedOrders = true := by kernel_rfl
end Go.Proofs.Ytnkboccngialiaa
