/- A script of edits from the one text to the other: what it is, and what it says. -/
import Derived.Test.YtabiegbbbljhlaaTab
namespace Go.Proofs.Ytabiegbbbljhlaa
open Go.RowKit

def scrT : List ByteArray → List ByteArray → List EV
  | [], [] => []
  | x :: a, [] => ⟨2, x⟩ :: scrT a []
  | [], y :: b => ⟨3, y⟩ :: scrT [] b
  | x :: a, y :: b => if x = y then ⟨1, x⟩ :: scrT a b else if lcs (x :: a) b ≤ lcs a (y :: b) then ⟨2, x⟩ :: scrT a (y :: b) else ⟨3, y⟩ :: scrT (x :: a) b
termination_by a b => a.length + b.length
def pfx : List ByteArray → List ByteArray → Nat
  | x :: a, y :: b => if x = y then pfx a b + 1 else 0
  | _, _ => 0
def evs (k : Int) (l : List ByteArray) : List EV := l.map fun x => ⟨k, x⟩
def rest (a b : List ByteArray) : List EV := if 400 < a.length ∨ 400 < b.length then evs 2 a ++ evs 3 b else scrT a b
def script (a b : List ByteArray) : List EV := evs 1 (a.take (pfx a b)) ++ rest (a.drop (pfx a b)) (b.drop (pfx a b))

/-- The one side, and the other. -/
def olds (l : List EV) : List ByteArray := l.flatMap fun e => if e.kind = 3 then [] else [e.line]
def news (l : List EV) : List ByteArray := l.flatMap fun e => if e.kind = 2 then [] else [e.line]
def kinds (l : List EV) : Prop := ∀ e ∈ l, e.kind = 1 ∨ e.kind = 2 ∨ e.kind = 3

theorem scrT_len : ∀ a b : List ByteArray, (scrT a b).length ≤ a.length + b.length
  | [], [] => by simp [scrT]
  | x :: a, [] => by rw [scrT]; have := scrT_len a []; simp at *; omega
  | [], y :: b => by rw [scrT]; have := scrT_len [] b; simp at *; omega
  | x :: a, y :: b => by
    rw [scrT]
    have h1 := scrT_len a b
    have h2 := scrT_len a (y :: b)
    have h3 := scrT_len (x :: a) b
    simp only [List.length_cons] at *
    split
    · simp only [List.length_cons]; omega
    · split <;> (simp only [List.length_cons]; omega)
termination_by a b => a.length + b.length
theorem scrT_says : ∀ a b : List ByteArray, olds (scrT a b) = a ∧ news (scrT a b) = b ∧ kinds (scrT a b)
  | [], [] => by simp [scrT, olds, news, kinds]
  | x :: a, [] => by
    obtain ⟨h1, h2, h3⟩ := scrT_says a []
    rw [scrT]
    refine ⟨by simp only [olds, List.flatMap_cons] at *; rw [h1]; simp, by simp only [news, List.flatMap_cons] at *; rw [h2]; simp, ?_⟩
    intro e he
    rcases List.mem_cons.1 he with rfl | he
    · simp
    · exact h3 e he
  | [], y :: b => by
    obtain ⟨h1, h2, h3⟩ := scrT_says [] b
    rw [scrT]
    refine ⟨by simp only [olds, List.flatMap_cons] at *; rw [h1]; simp, by simp only [news, List.flatMap_cons] at *; rw [h2]; simp, ?_⟩
    intro e he
    rcases List.mem_cons.1 he with rfl | he
    · simp
    · exact h3 e he
  | x :: a, y :: b => by
    rw [scrT]
    split
    · rename_i hxy
      obtain ⟨h1, h2, h3⟩ := scrT_says a b
      refine ⟨by simp only [olds, List.flatMap_cons] at *; rw [h1]; simp, by simp only [news, List.flatMap_cons] at *; rw [h2]; simp [hxy], ?_⟩
      intro e he
      rcases List.mem_cons.1 he with rfl | he
      · simp
      · exact h3 e he
    · split
      · obtain ⟨h1, h2, h3⟩ := scrT_says a (y :: b)
        refine ⟨by simp only [olds, List.flatMap_cons] at *; rw [h1]; simp, by simp only [news, List.flatMap_cons] at *; rw [h2]; simp, ?_⟩
        intro e he
        rcases List.mem_cons.1 he with rfl | he
        · simp
        · exact h3 e he
      · obtain ⟨h1, h2, h3⟩ := scrT_says (x :: a) b
        refine ⟨by simp only [olds, List.flatMap_cons] at *; rw [h1]; simp, by simp only [news, List.flatMap_cons] at *; rw [h2]; simp, ?_⟩
        intro e he
        rcases List.mem_cons.1 he with rfl | he
        · simp
        · exact h3 e he
termination_by a b => a.length + b.length

theorem olds_app (l m : List EV) : olds (l ++ m) = olds l ++ olds m := by simp [olds]
theorem news_app (l m : List EV) : news (l ++ m) = news l ++ news m := by simp [news]
theorem evs_says (a : List ByteArray) : olds (evs 1 a) = a ∧ news (evs 1 a) = a ∧ olds (evs 2 a) = a ∧ news (evs 2 a) = [] ∧ olds (evs 3 a) = [] ∧ news (evs 3 a) = a := by
  induction a with
  | nil => simp [evs, olds, news]
  | cons x a ih =>
    simp only [evs, olds, news, List.map_cons, List.flatMap_cons] at *
    simp [ih]
theorem evs_kinds (k : Int) (hk : k = 1 ∨ k = 2 ∨ k = 3) (a : List ByteArray) : kinds (evs k a) := by
  intro e he
  obtain ⟨x, _, rfl⟩ := List.mem_map.1 he
  exact hk
theorem kinds_app {l m : List EV} (h : kinds l) (h' : kinds m) : kinds (l ++ m) := by
  intro e he
  rcases List.mem_append.1 he with he | he
  · exact h e he
  · exact h' e he
theorem rest_says (a b : List ByteArray) : olds (rest a b) = a ∧ news (rest a b) = b ∧ kinds (rest a b) := by
  unfold rest
  split
  · obtain ⟨_, _, h1, h2, _, _⟩ := evs_says a
    obtain ⟨_, _, _, _, h3, h4⟩ := evs_says b
    rw [olds_app, news_app, h1, h2, h3, h4]
    exact ⟨by simp, by simp, kinds_app (evs_kinds 2 (by simp) a) (evs_kinds 3 (by simp) b)⟩
  · exact scrT_says a b
theorem pfx_take : ∀ a b : List ByteArray, a.take (pfx a b) = b.take (pfx a b)
  | x :: a, y :: b => by
    rw [pfx]
    split
    · rename_i h
      subst h
      simp [pfx_take a b]
    · simp
  | [], _ => by simp [pfx]
  | _ :: _, [] => by simp [pfx]
theorem script_says (a b : List ByteArray) : olds (script a b) = a ∧ news (script a b) = b ∧ kinds (script a b) := by
  obtain ⟨h1, h2, _⟩ := evs_says (a.take (pfx a b))
  obtain ⟨h3, h4, h5⟩ := rest_says (a.drop (pfx a b)) (b.drop (pfx a b))
  unfold script
  rw [olds_app, news_app, h1, h2, h3, h4]
  exact ⟨List.take_append_drop _ _, by rw [pfx_take, List.take_append_drop], kinds_app (evs_kinds 1 (by simp) _) h5⟩
theorem script_len (a b : List ByteArray) : (script a b).length ≤ a.length + b.length := by
  unfold script rest
  have h := scrT_len (a.drop (pfx a b)) (b.drop (pfx a b))
  rw [List.length_drop, List.length_drop] at h
  have hp := congrArg List.length (pfx_take a b)
  rw [List.length_take, List.length_take] at hp
  split
  · simp only [evs, List.length_append, List.length_map, List.length_take, List.length_drop]; omega
  · simp only [evs, List.length_append, List.length_map, List.length_take]; omega
/-- The prefix, found. -/
theorem pfx_eq : ∀ {k : Nat} {a b : List ByteArray}, k ≤ a.length → k ≤ b.length → a.take k = b.take k → (k = a.length ∨ k = b.length ∨ a[k]? ≠ b[k]?) → pfx a b = k
  | 0, [], b, _, _, _, _ => by simp [pfx]
  | 0, x :: a, [], _, _, _, _ => by simp [pfx]
  | 0, x :: a, y :: b, _, _, _, h => by
    have h' : x ≠ y := by simpa using h
    rw [pfx, if_neg h']
  | k + 1, [], b, h, _, _, _ => by simp at h
  | k + 1, x :: a, [], _, h, _, _ => by simp at h
  | k + 1, x :: a, y :: b, h1, h2, h3, h4 => by
    simp only [List.take_succ_cons, List.cons.injEq] at h3
    obtain ⟨rfl, h3⟩ := h3
    rw [pfx, if_pos rfl, pfx_eq (k := k) (by simpa using h1) (by simpa using h2) h3 (by simpa using h4)]
section
variable {a b : List ByteArray} {i k : Nat} {x y : ByteArray}
theorem drop_at (hx : a[i]? = some x) : a.drop i = x :: a.drop (i + 1) := by
  obtain ⟨hi, rfl⟩ := List.getElem?_eq_some_iff.1 hx
  exact List.drop_eq_getElem_cons hi
theorem scr_keep (hx : a[i]? = some x) (hy : b[k]? = some y) (h : x = y) : scrT (a.drop i) (b.drop k) = ⟨1, x⟩ :: scrT (a.drop (i + 1)) (b.drop (k + 1)) := by
  rw [drop_at hx, drop_at hy, scrT, if_pos h]
theorem scr_delE (hx : a[i]? = some x) : scrT (a.drop i) (b.drop b.length) = ⟨2, x⟩ :: scrT (a.drop (i + 1)) (b.drop b.length) := by
  rw [drop_at hx, List.drop_length, scrT]
theorem scr_insE (hy : b[k]? = some y) : scrT (a.drop a.length) (b.drop k) = ⟨3, y⟩ :: scrT (a.drop a.length) (b.drop (k + 1)) := by
  rw [drop_at hy, List.drop_length, scrT]
theorem scr_del (hx : a[i]? = some x) (hy : b[k]? = some y) (h : x ≠ y) (hc : cel a b i (k + 1) ≤ cel a b (i + 1) k) : scrT (a.drop i) (b.drop k) = ⟨2, x⟩ :: scrT (a.drop (i + 1)) (b.drop k) := by
  unfold cel at hc
  rw [drop_at hx, drop_at hy] at *
  rw [scrT, if_neg h, if_pos hc]
theorem scr_ins (hx : a[i]? = some x) (hy : b[k]? = some y) (h : x ≠ y) (hc : ¬ cel a b i (k + 1) ≤ cel a b (i + 1) k) : scrT (a.drop i) (b.drop k) = ⟨3, y⟩ :: scrT (a.drop i) (b.drop (k + 1)) := by
  unfold cel at hc
  rw [drop_at hx, drop_at hy] at *
  rw [scrT, if_neg h, if_neg hc]
end
end Go.Proofs.Ytabiegbbbljhlaa
