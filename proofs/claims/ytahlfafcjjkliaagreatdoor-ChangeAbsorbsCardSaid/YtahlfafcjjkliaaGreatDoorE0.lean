/- Lists held against each other; structs held against each other. -/
import Derived.Test.YtahlfafcjjkliaaGreatDoorT8
import Derived.Laws.StructEq
import Derived.Test.YtahlfafcjjkliaaGreatDoorFork
namespace Go.Proofs.YtahlfafcjjkliaaGreatDoor
open Go.RowKit

section
variable {α : Type}
def lall2 (eq : α → α → Bool) : List α → List α → Bool
  | [], [] => true
  | x :: xs, y :: ys => eq x y && lall2 eq xs ys
  | _, _ => false
variable {eq : α → α → Bool}
theorem lall2_len : ∀ {xs ys : List α}, xs.length ≠ ys.length → lall2 eq xs ys = false
  | [], [], h => absurd rfl h
  | [], _ :: _, _ => rfl
  | _ :: _, [], _ => rfl
  | x :: xs, y :: ys, h => by rw [lall2, lall2_len (xs := xs) (ys := ys) (by simpa using h), Bool.and_false]
theorem lall2_bad : ∀ {xs ys : List α} {k : Nat} {x y : α}, xs[k]? = some x → ys[k]? = some y → eq x y = false → lall2 eq xs ys = false
  | a :: xs, b :: ys, 0, x, y, h1, h2, h => by
    simp at h1 h2; subst h1; subst h2; rw [lall2, h, Bool.false_and]
  | a :: xs, b :: ys, k + 1, x, y, h1, h2, h => by
    simp at h1 h2; rw [lall2, lall2_bad h1 h2 h, Bool.and_false]
  | [], _, k, x, y, h1, _, _ => by simp at h1
  | _ :: _, [], k, x, y, _, h2, _ => by simp at h2
/-- The first k are alike. -/
def EqTo (eq : α → α → Bool) (xs ys : List α) (k : Nat) : Prop := ∀ j x y, j < k → xs[j]? = some x → ys[j]? = some y → eq x y = true
theorem EqTo.next {xs ys : List α} {k : Nat} {x y : α} (h : EqTo eq xs ys k) (hx : xs[k]? = some x) (hy : ys[k]? = some y) (he : eq x y = true) : EqTo eq xs ys (k + 1) := by
  intro j a b hj ha hb
  by_cases e : j = k
  · subst e; rw [hx] at ha; rw [hy] at hb; injection ha with ha; injection hb with hb; subst ha; subst hb; exact he
  · exact h j a b (by omega) ha hb
theorem EqTo.done : ∀ {xs ys : List α} {n : Nat}, EqTo eq xs ys n → xs.length = n → ys.length = n → lall2 eq xs ys = true
  | [], [], _, _, _, _ => rfl
  | [], _ :: _, _, _, h1, h2 => by subst h1; simp at h2
  | _ :: _, [], _, _, h1, h2 => by subst h1; simp at h2
  | x :: xs, y :: ys, n, h, h1, h2 => by
    simp only [List.length_cons] at h1 h2
    rw [lall2, h 0 x y (by omega) rfl rfl, EqTo.done (xs := xs) (ys := ys) (n := n - 1) (fun j a b hj ha hb => h (j + 1) a b (by omega) (by simpa using ha) (by simpa using hb)) (by omega) (by omega)]; rfl
theorem lall2_eq [DecidableEq α] : ∀ (xs ys : List α), lall2 (fun x y => decide (x = y)) xs ys = decide (xs = ys)
  | [], [] => by simp [lall2]
  | [], _ :: _ => by simp [lall2]
  | _ :: _, [] => by simp [lall2]
  | x :: xs, y :: ys => by rw [lall2, lall2_eq xs ys]; by_cases h : x = y <;> simp [h]
end

theorem eff_neq {P : Program} {S : World → Prop} {a : Act} {w : World} {K : Act → World → Prop} {dst : Option Tmp} {t ty ty' : TypeId} {x y : Operand} {q b : Bool} {g : Option (Tmp × Bool)} {xs ys : Array Value}
    (hx : a.eval x = .agg xs) (hy : a.eval y = .agg ys) (hm : P.eqGuardType P.depth t = false) (hc : (Op.equalIn 10000 t (.agg xs) (.agg ys)).run P w = .ok b w)
    (hK : S w ∧ K (a.put dst (.bool (!b))) w) : effq P S ⟨q, dst, .binOp .neq t x y ty', ty, g⟩ a w K := by
  refine eff_val (fun p af g => ?_) hK
  unfold execOp
  simp only [hx, hy, Sem.run_bind, run_eqGuard_agg _ _ _ _ _ _ _ hm, run_neq_struct, hc, Result.andThen_ok, Sem.run_pure]
end Go.Proofs.YtahlfafcjjkliaaGreatDoor
