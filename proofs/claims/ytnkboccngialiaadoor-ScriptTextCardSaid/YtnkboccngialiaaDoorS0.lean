/- Steps of a script, as bytes tell them: plain Lean, no program in sight. -/
import Derived.Test.YtnkboccngialiaaDoorOwns
namespace Go.Proofs.YtnkboccngialiaaDoor
open Go.RowKit

/-- A byte at a place; 0 behind the end. -/
def by_ (xs : List UInt8) (i : Nat) : Nat := (xs.getD i 0).toNat
theorem by_lt (xs : List UInt8) (i : Nat) : by_ xs i < 256 := (xs.getD i 0).toNat_lt
theorem by_drop (xs : List UInt8) (p i : Nat) : by_ (xs.drop p) i = by_ xs (p + i) := by
  unfold by_; rw [List.getD_eq_getElem?_getD, List.getElem?_drop, ← List.getD_eq_getElem?_getD]
theorem by_get {xs : List UInt8} {i : Nat} {c : UInt8} (h : xs[i]? = some c) : by_ xs i = c.toNat := by
  unfold by_; rw [List.getD_eq_getElem?_getD, h]; rfl
theorem by_none {xs : List UInt8} {i : Nat} (h : xs.length ≤ i) : by_ xs i = 0 := by
  unfold by_; rw [List.getD_eq_getElem?_getD, List.getElem?_eq_none h]; rfl
theorem by_take {xs ys : List UInt8} {k i : Nat} (h : i < k) (hk : k ≤ xs.length) : by_ (xs.take k ++ ys) i = by_ xs i := by
  unfold by_
  rw [List.getD_eq_getElem?_getD, List.getElem?_append_left (by rw [List.length_take]; omega), List.getElem?_take, if_pos h, ← List.getD_eq_getElem?_getD]

/-- A change, and a step. -/
structure PC where
  path : ByteArray
  del : Bool
  exec : Bool
  text : ByteArray
deriving DecidableEq
structure PS where
  crash : Bool
  after : Int
  keep : List Int
  kind : Int
  msg : ByteArray
  changes : List PC
  paths : List ByteArray
  count : Int
  commit : Int
  dest : Int
  name : ByteArray
deriving DecidableEq

/-- One letter; a text of lines of one letter; a letter with a digit. -/
def ltr (n : Nat) : ByteArray := ⟨#[UInt8.ofNat (97 + n)]⟩
def txt (v : Nat) : Nat → List UInt8
  | 0 => []
  | k + 1 => txt v k ++ [UInt8.ofNat (97 + (v + k) % 6), 10]
theorem txt_len (v k : Nat) : (txt v k).length = 2 * k := by
  induction k with
  | zero => rfl
  | succ k ih => rw [txt, List.length_append, ih]; simp; omega
def lnum (c : UInt8) (n : Nat) : ByteArray := ⟨#[c, UInt8.ofNat (48 + n)]⟩

/-- The step of eight numbers, and the one that stands at a place. -/
def stepOf (x0 x1 x2 x3 x4 x5 x6 x7 : Nat) : PS :=
  if 239 < x0 then ⟨true, ((x1 % 6 : Nat) : Int), [(x2 : Int), (x3 : Int)], 0, ⟨#[]⟩, [], [], 0, 0, 0, ⟨#[]⟩⟩
  else ⟨false, 0, [], ((x0 % 15 + 1 : Nat) : Int), lnum 109 (x1 % 10), [⟨ltr (x2 % 4), decide (x3 % 7 = 0), decide (x3 % 2 = 1), ⟨(txt x5 (x4 % 4)).toArray⟩⟩],
    [ltr (x2 % 4)], ((2 + x6 % 2 : Nat) : Int), ((x6 % 8 : Nat) : Int), ((x7 % 9 : Nat) : Int) - 1, lnum 110 (x7 % 3)⟩
def stepAt (xs : List UInt8) (i : Nat) : PS := stepOf (by_ xs i) (by_ xs (i + 1)) (by_ xs (i + 2)) (by_ xs (i + 3)) (by_ xs (i + 4)) (by_ xs (i + 5)) (by_ xs (i + 6)) (by_ xs (i + 7))
theorem stepAt_of (xs : List UInt8) (i : Nat) : stepAt xs i = stepOf (by_ xs i) (by_ xs (i + 1)) (by_ xs (i + 2)) (by_ xs (i + 3)) (by_ xs (i + 4)) (by_ xs (i + 5)) (by_ xs (i + 6)) (by_ xs (i + 7)) := rfl

/-- How many steps so many bytes are. -/
def nst (n : Nat) : Nat := min 200 ((n + 7) / 8)
def stepsTo (xs : List UInt8) (j : Nat) : List PS := (List.range j).map fun j => stepAt xs (8 * j)
def steps (xs : List UInt8) : List PS := stepsTo xs (nst xs.length)
theorem stepsTo_len (xs : List UInt8) (j : Nat) : (stepsTo xs j).length = j := by simp [stepsTo]
theorem steps_len (xs : List UInt8) : (steps xs).length = nst xs.length := stepsTo_len _ _
theorem stepsTo_succ (xs : List UInt8) (j : Nat) : stepsTo xs (j + 1) = stepsTo xs j ++ [stepAt xs (8 * j)] := by simp [stepsTo, List.range_succ]
theorem nst_more {n j : Nat} (h : j ≤ nst n) (h1 : 8 * j < n) (h2 : j < 200) : j + 1 ≤ nst n := by unfold nst at *; omega
theorem nst_end {n j : Nat} (h : j ≤ nst n) (h1 : ¬ (8 * j < n ∧ j < 200)) : j = nst n := by unfold nst at *; omega
theorem stepAt_congr {xs ys : List UInt8} {i : Nat} (h : ∀ t, t < 8 → by_ xs (i + t) = by_ ys (i + t)) : stepAt xs i = stepAt ys i := by
  have h0 := h 0 (by omega); have h1 := h 1 (by omega); have h2 := h 2 (by omega); have h3 := h 3 (by omega)
  have h4 := h 4 (by omega); have h5 := h 5 (by omega); have h6 := h 6 (by omega); have h7 := h 7 (by omega)
  rw [Nat.add_zero] at h0
  simp only [stepAt, h0, h1, h2, h3, h4, h5, h6, h7]
/-- What stands behind plays no part. -/
theorem steps_tail (xs ys : List UInt8) : (steps (xs.take (xs.length / 8 * 8) ++ ys)).take (min 200 (xs.length / 8)) = steps (xs.take (xs.length / 8 * 8)) := by
  have hl : (xs.take (xs.length / 8 * 8)).length = xs.length / 8 * 8 := by rw [List.length_take]; omega
  apply List.ext_getElem?
  intro j
  rw [List.getElem?_take]
  unfold steps stepsTo
  rw [List.length_append, hl]
  by_cases h : j < min 200 (xs.length / 8)
  · rw [if_pos h, List.getElem?_map, List.getElem?_map, List.getElem?_range (by unfold nst; omega), List.getElem?_range (by unfold nst; omega)]
    simp only [Option.map_some]
    congr 1
    refine stepAt_congr fun t ht => ?_
    rw [by_take (by omega) (by omega)]
    have := by_take (xs := xs) (ys := []) (k := xs.length / 8 * 8) (i := 8 * j + t) (by omega) (by omega)
    rw [List.append_nil] at this
    exact this.symm
  · rw [if_neg h, List.getElem?_eq_none]
    rw [List.length_map, List.length_range]; unfold nst; omega
end Go.Proofs.YtnkboccngialiaaDoor
