/- How many runs of changes there are, and how many changes. -/
import Derived.Test.YtabiegbbbljhlaaSay
namespace Go.Proofs.Ytabiegbbbljhlaa
open Go.RowKit

/-- How many edits change something. -/
def cnt : List EV → Nat
  | [] => 0
  | e :: es => (if e.kind = 1 then 0 else 1) + cnt es
def hsum : List PH → Nat
  | [] => 0
  | h :: l => h.old.length + h.new.length + hsum l
theorem cnt_app (l m : List EV) : cnt (l ++ m) = cnt l + cnt m := by
  induction l with
  | nil => simp [cnt]
  | cons x l ih => rw [List.cons_append, cnt, cnt, ih]; omega
theorem hsum_app (l m : List PH) : hsum (l ++ m) = hsum l + hsum m := by
  induction l with
  | nil => simp [hsum]
  | cons x l ih => rw [List.cons_append, hsum, hsum, ih]; omega
theorem cnt_le : ∀ l : List EV, cnt l ≤ l.length
  | [] => Nat.le_refl _
  | x :: l => by have := cnt_le l; rw [cnt, List.length_cons]; split <;> omega
theorem cnt_succ {es : List EV} {k : Nat} {e : EV} (hk : es[k]? = some e) : cnt (es.take (k + 1)) = cnt (es.take k) + (if e.kind = 1 then 0 else 1) := by
  rw [List.take_add_one, hk, cnt_app]; simp [cnt]
theorem hsum_succ {l : List HV} {k : Nat} {u : HV} (hk : l[k]? = some u) : hsum ((l.take (k + 1)).map HV.pure) = hsum ((l.take k).map HV.pure) + (u.old.length + u.new.length) := by
  rw [List.take_add_one, hk, List.map_append, hsum_app]; simp [hsum, HV.pure]
theorem hsum_mono (l : List HV) (k : Nat) : hsum ((l.take k).map HV.pure) ≤ hsum (l.map HV.pure) := by
  have := congrArg hsum (congrArg (List.map HV.pure) (List.take_append_drop k l))
  rw [List.map_append, hsum_app] at this
  omega
def tot (s : HS) : List PH := s.dn ++ s.cur.toList
theorem hstep_sum {s : HS} {e : EV} (hk : e.kind = 1 ∨ e.kind = 2 ∨ e.kind = 3) : hsum (tot (hstep s e)) = hsum (tot s) + (if e.kind = 1 then 0 else 1) := by
  unfold hstep tot
  rcases hk with h | h | h
  · simp [h]
  · simp only [h, hsum_app]
    cases hc : s.cur <;> simp [hsum]
    omega
  · simp only [h, hsum_app]
    cases hc : s.cur <;> simp [hsum]
    omega
theorem hunks_sum {es : List EV} (hk : kinds es) : hsum (hunksL es) = cnt es := by
  have key : ∀ (es : List EV) (s : HS), kinds es → hsum (tot (es.foldl hstep s)) = hsum (tot s) + cnt es := by
    intro es
    induction es with
    | nil => intro s _; simp [cnt]
    | cons e es ih =>
      intro s hk
      rw [List.foldl_cons, ih _ (kinds_tail hk), hstep_sum (hk e (by simp)), cnt]
      omega
  have := key es ⟨[], none, 0⟩ hk
  simpa [hunksL, hst, tot, hsum] using this
/-- How many hunks there are behind the first k edits. -/
def runs (es : List EV) (k : Nat) : Nat := (tot (hst (es.take k))).length
theorem runs_zero (es : List EV) : runs es 0 = 0 := by simp [runs, tot, hst]
theorem runs_all (es : List EV) : runs es es.length = (hunksL es).length := by simp [runs, tot, hunksL]
theorem cur_at {es : List EV} {k : Nat} {e : EV} (hk : es[k]? = some e) : (hst (es.take (k + 1))).cur = none ↔ e.kind = 1 := by
  rw [hst_succ hk]
  unfold hstep
  split
  · simp [*]
  · split
    · simp [*]
    · split
      · simp [*]
      · simp [*]
theorem runs_keep {es : List EV} {k : Nat} {e : EV} (hk : es[k]? = some e) (h : e.kind = 1) : runs es (k + 1) = runs es k := by
  simp only [runs, hst_succ hk, tot, hstep, h, if_true, Option.toList_none, List.append_nil]
theorem runs_more {es : List EV} {k : Nat} {e : EV} (hk : es[k]? = some e) (h : e.kind ≠ 1) (hc : (hst (es.take k)).cur = none) : runs es (k + 1) = runs es k + 1 := by
  simp only [runs, hst_succ hk, tot, hstep, if_neg h, hc]
  split
  · simp
  · split <;> simp
theorem runs_same {es : List EV} {k : Nat} {e : EV} (hk : es[k]? = some e) (h : e.kind ≠ 1) (hc : (hst (es.take k)).cur ≠ none) : runs es (k + 1) = runs es k := by
  obtain ⟨c, hc⟩ := Option.ne_none_iff_exists'.1 hc
  simp only [runs, hst_succ hk, tot, hstep, if_neg h, hc]
  split
  · simp
  · split <;> simp
theorem runs_first {es : List EV} {e : EV} (hk : es[0]? = some e) (h : e.kind ≠ 1) : runs es (0 + 1) = runs es 0 + 1 := runs_more hk h (by simp [hst])
theorem runs_next {es : List EV} {k : Nat} {e f : EV} (hk : es[k + 1]? = some e) (hf : es[k]? = some f) (h : e.kind ≠ 1) : runs es (k + 1 + 1) = runs es (k + 1) + (if f.kind = 1 then 1 else 0) := by
  by_cases h1 : f.kind = 1
  · rw [runs_more hk h ((cur_at hf).2 h1), if_pos h1]
  · rw [runs_same hk h (fun hn => h1 ((cur_at hf).1 hn)), if_neg h1]; rfl
theorem runs_le (es : List EV) (k : Nat) (hk : k ≤ es.length) : runs es k ≤ k := by
  have := (hst_few (es.take k)).2
  rw [List.length_take] at this
  exact Nat.le_trans this (Nat.min_le_left _ _)
end Go.Proofs.Ytabiegbbbljhlaa
