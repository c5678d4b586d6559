/- Plans, plainly: what moves, and where one leads to. -/
import Derived.Test.YtnkboccngialiaaP0
namespace Go.Proofs.Ytnkboccngialiaa
open Go.RowKit

theorem moved_at {l : List Int} {ms : List MV} {s x : Int} (h : x ∈ moved l ms s) : s ≤ x ∧ 0 ≤ x ∧ x < l.length ∧ obs ms x = false ∧ (x = s ∨ par l x ∈ moved l ms s) := by
  obtain ⟨⟨hr, hs0, hs1⟩, h1, h2, h3⟩ := mem_moved.1 h
  rw [mv_eq hr hs0 (by omega) h2] at h3
  simp only [Bool.and_eq_true, Bool.not_eq_true', Bool.or_eq_true, decide_eq_true_eq] at h3
  have hp := rightP_at hr (i := x) (by omega) h2
  refine ⟨h1, by omega, h2, h3.1, h3.2.imp id fun h => mem_moved.2 ⟨⟨hr, hs0, hs1⟩, h.1, by omega, h.2⟩⟩
theorem moved_closed {l : List Int} {ms : List MV} {s x : Int} (h0 : 0 ≤ x) (h1 : x < l.length) (h : par l x ∈ moved l ms s) (ho : obs ms x = false) : x ∈ moved l ms s := by
  obtain ⟨⟨hr, hs0, hs1⟩, h2, h3, h4⟩ := mem_moved.1 h
  have hp := rightP_at hr h0 h1
  refine mem_moved.2 ⟨⟨hr, hs0, hs1⟩, by omega, h1, ?_⟩
  rw [mv_eq hr hs0 h0 h1, ho, h4, decide_eq_true h2]; simp
theorem moved_self {l : List Int} {ms : List MV} {s : Int} (hr : rightP l = true) (h0 : 0 ≤ s) (h1 : s < l.length) : decide (s ∈ moved l ms s) = !obs ms s := by
  cases ho : obs ms s with
  | true => exact decide_eq_false fun h => by have := (moved_at h).2.2.2.1; rw [ho] at this; cases this
  | false =>
    refine decide_eq_true (mem_moved.2 ⟨⟨hr, h0, h1⟩, Int.le_refl _, h1, ?_⟩)
    rw [mv_eq hr h0 h0 h1, ho]; simp
theorem moved_len (l : List Int) (ms : List MV) (s : Int) : (moved l ms s).length ≤ l.length := by
  unfold moved
  split
  · exact movedTo_len _ _ _ _
  · simp
theorem reach_lt {ms : List MV} {N i x : Int} (hN : ∀ m ∈ ms, ∀ y ∈ m.new, y < N) (hi : i < N) (h : Reach ms i x) : x < N := by
  induction h with
  | refl => exact hi
  | step _ hx _ _ =>
    obtain ⟨m, hm, _, hy⟩ := mem_nexts.1 hx
    exact hN m hm _ hy
theorem target_at {l : List Int} {ms : List MV} {i t : Int} (hN : ∀ m ∈ ms, ∀ y ∈ m.new, y < l.length) (h : TargetIs l ms i t) : t = -1 ∨ (0 ≤ t ∧ t < l.length ∧ obs ms t = false) := by
  induction h with
  | out _ => exact .inl rfl
  | here hr h0 h1 hf ht =>
    have := (hf.mem _).1 (List.mem_of_getLast? ht)
    have h2 := this.1.le
    exact .inr ⟨by omega, reach_lt hN h1 this.1, this.2⟩
  | up _ _ _ _ _ ih => exact ih
theorem target_self {l : List Int} {ms : List MV} {i t : Int} (hr : rightP l = true) (h0 : 0 ≤ i) (h1 : i < l.length) (ho : obs ms i = false) (h : TargetIs l ms i t) : t = i :=
  h.uniq (.here hr h0 h1 (FinalIs.self ho) rfl)

/-! ### a line, and one that stands beside -/
structure LineIs (n a : Nat) (l : List Int) : Prop where
  len : l.length = n + 1
  at_ : ∀ j : Nat, j < n → par l j = (j : Int) - 1
  last : par l n = (a : Int) - 1
theorem LineIs.right {n a : Nat} {l : List Int} (h : LineIs n a l) (ha : a < n) : rightP l = true := by
  refine rightP_yes fun i p hp => ?_
  have hlt := (List.getElem?_eq_some_iff.1 hp).1
  have hl := h.len
  rw [← par_get hp]
  by_cases hi : i < n
  · rw [h.at_ i hi]; omega
  · obtain rfl : i = n := by omega
    rw [h.last]; omega
theorem obs_one {A : Option Addr} {c : Nat} {o : Int} {nw : List Int} (k : Int) : obs [⟨o, A, c, nw⟩] k = decide (o = k) := by simp [obs]
theorem nexts_one {A : Option Addr} {c : Nat} {o : Int} {nw : List Int} (k : Int) : nexts [⟨o, A, c, nw⟩] k = if o = k then nw else [] := by simp [nexts]
theorem final_one {A : Option Addr} {c : Nat} {o y : Int} (h : o < y) : FinalIs [⟨o, A, c, [y]⟩] o [y] := by
  refine ⟨by simp, fun x => ?_⟩
  have hnx : ∀ k x, x ∈ nexts [⟨o, A, c, [y]⟩] k ↔ k = o ∧ x = y := fun k x => by
    rw [nexts_one]
    by_cases e : o = k
    · subst e; simp
    · rw [if_neg e]; simp; intro e2; exact absurd e2.symm e
  have h0 : Reach [⟨o, A, c, [y]⟩] o o := .refl
  rw [reach_iff (S := fun x => x = o ∨ x = y) (.inl rfl) (fun x hx => by
    rcases hx with rfl | rfl
    · exact h0
    · exact .step h0 ((hnx _ _).2 ⟨rfl, rfl⟩) h) (fun k x hk hx _ => .inr ((hnx k x).1 hx).2), obs_one]
  simp only [List.mem_singleton, decide_eq_false_iff_not]
  omega
section
variable {n a : Nat} {l : List Int} {A : Option Addr} {c : Nat}
theorem line_orphan (h : LineIs n a l) (ha : a + 1 < n) : OrphanIs l [⟨(a : Int), A, c, [(n : Int)]⟩] ((a : Int) + 1) n true := by
  have hr := h.right (by omega)
  have hl := h.len
  have hpa : par l ((a : Int) + 1) = a := by have := h.at_ (a + 1) (by omega); rw [show ((a + 1 : Nat) : Int) = (a : Int) + 1 by omega] at this; omega
  have := OrphanIs.some_ (l := l) (ms := [⟨(a : Int), A, c, [(n : Int)]⟩]) (i := a + 1) (t := n) hr (by omega) ?_ ?_
  · rwa [show ((a + 1 : Nat) : Int) = (a : Int) + 1 by omega] at this
  · rw [show ((a + 1 : Nat) : Int) = (a : Int) + 1 by omega]
    refine ⟨by rw [hpa]; omega, by rw [obs_one]; exact decide_eq_false (by omega), by rw [hpa, obs_one]; exact decide_eq_true rfl, ?_, by omega, ?_⟩
    · rw [hpa]; exact .here hr (by omega) (by omega) (final_one (by omega)) rfl
    · unfold above
      refine decide_eq_false fun hx => ?_
      rw [chain_cons hr (by omega) (by omega), h.last] at hx
      rcases List.mem_cons.1 hx with e | hx
      · omega
      · have := chain_mem hx; omega
  · intro j hj t ho
    have h1 := ho.2.2.1
    rw [h.at_ j (by omega), obs_one] at h1
    have := of_decide_eq_true h1
    omega
theorem line_target (h : LineIs n a l) (ha : a + 1 < n) {t : Int} (ht : TargetIs l [⟨(a : Int), A, c, [(n : Int)]⟩] a t) : t = n :=
  ht.uniq (.here (h.right (by omega)) (by omega) (by have := h.len; omega) (final_one (by omega)) rfl)
theorem line_target2 (h : LineIs n a l) (ha : a + 1 < n) {t : Int} (ht : TargetIs l [⟨(a : Int), A, c, [(n : Int)]⟩] ((a : Int) + 1) t) : t = (a : Int) + 1 :=
  target_self (h.right (by omega)) (by omega) (by have := h.len; omega) (by rw [obs_one]; exact decide_eq_false (by omega)) ht
theorem line_mv (h : LineIs n a l) (ha : a + 1 < n) : ∀ k : Nat, k < n → mv l [⟨(a : Int), A, c, [(n : Int)]⟩] ((a : Int) + 1) k = decide (a + 1 ≤ k)
  | 0, hk => by
    have hr := h.right (by omega)
    rw [mv_eq hr (by omega) (by omega) (by have := h.len; omega), h.at_ 0 hk]
    rw [decide_eq_false (by omega : ¬ ((0 : Nat) : Int) = (a : Int) + 1), decide_eq_false (by omega : ¬ (a : Int) + 1 ≤ ((0 : Nat) : Int) - 1)]
    simp
  | k + 1, hk => by
    have hr := h.right (by omega)
    have ih := line_mv h ha k (by omega)
    rw [mv_eq hr (by omega) (by omega) (by have := h.len; omega), h.at_ (k + 1) hk, show ((k + 1 : Nat) : Int) - 1 = (k : Int) by omega, ih, obs_one]
    by_cases e : k + 1 = a + 1
    · rw [decide_eq_true (by omega : ((k + 1 : Nat) : Int) = (a : Int) + 1), decide_eq_false (by omega : ¬ (a : Int) = ((k + 1 : Nat) : Int)), decide_eq_true (by omega : a + 1 ≤ k + 1)]; simp
    · by_cases e2 : a + 1 ≤ k
      · rw [decide_eq_true e2, decide_eq_true (by omega : (a : Int) + 1 ≤ (k : Int)), decide_eq_false (by omega : ¬ (a : Int) = ((k + 1 : Nat) : Int)), decide_eq_true (by omega : a + 1 ≤ k + 1)]; simp
      · rw [decide_eq_false e2, decide_eq_false (by omega : ¬ a + 1 ≤ k + 1), decide_eq_false (by omega : ¬ ((k + 1 : Nat) : Int) = (a : Int) + 1)]; simp
theorem line_mv_last (h : LineIs n a l) (ha : a + 1 < n) : mv l [⟨(a : Int), A, c, [(n : Int)]⟩] ((a : Int) + 1) n = false := by
  have hr := h.right (by omega)
  rw [mv_eq hr (by omega) (by omega) (by have := h.len; omega), h.last, decide_eq_false (by omega : ¬ (n : Int) = (a : Int) + 1), decide_eq_false (by omega : ¬ (a : Int) + 1 ≤ (a : Int) - 1)]
  simp
theorem line_moved_len (h : LineIs n a l) (ha : a + 1 < n) : (moved l [⟨(a : Int), A, c, [(n : Int)]⟩] ((a : Int) + 1)).length = n - 1 - a := by
  have hr := h.right (by omega)
  have hl := h.len
  have main : ∀ k : Nat, k ≤ n → (movedTo l [⟨(a : Int), A, c, [(n : Int)]⟩] ((a : Int) + 1) k).length = k - (a + 1) := by
    intro k
    induction k with
    | zero => intro _; rw [movedTo_none (by omega)]; simp
    | succ k ih =>
      intro hk
      rw [movedTo_succ, List.length_append, ih (by omega), line_mv h ha k (by omega)]
      by_cases e : a + 1 ≤ k
      · rw [decide_eq_true e, decide_eq_true (by omega : (a : Int) + 1 ≤ (k : Int))]; simp; omega
      · rw [decide_eq_false e]; simp; omega
  unfold moved
  rw [if_pos ⟨hr, by omega, by omega⟩, hl, movedTo_succ, List.length_append, main n (Nat.le_refl _), line_mv_last h ha]
  simp; omega
theorem line_moved_none (h : LineIs n a l) (ha : a + 1 < n) : moved l [⟨(a : Int), A, c, [(n : Int)]⟩] (a : Int) = [] := by
  have hr := h.right (by omega)
  have hl := h.len
  have main : ∀ k : Nat, k < n → mv l [⟨(a : Int), A, c, [(n : Int)]⟩] (a : Int) k = false := by
    intro k
    induction k with
    | zero =>
      intro hk
      rw [mv_eq hr (by omega) (by omega) (by omega), obs_one, h.at_ 0 hk]
      by_cases e : a = 0
      · subst e; simp
      · rw [decide_eq_false (by omega : ¬ ((0 : Nat) : Int) = (a : Int)), decide_eq_false (by omega : ¬ (a : Int) ≤ ((0 : Nat) : Int) - 1)]; simp
    | succ k ih =>
      intro hk
      rw [mv_eq hr (by omega) (by omega) (by omega), h.at_ (k + 1) hk, show ((k + 1 : Nat) : Int) - 1 = (k : Int) by omega, ih (by omega), obs_one]
      by_cases e : a = k + 1
      · rw [decide_eq_true (by omega : (a : Int) = ((k + 1 : Nat) : Int))]; simp
      · rw [decide_eq_false (by omega : ¬ ((k + 1 : Nat) : Int) = (a : Int))]; simp
  refine List.eq_nil_iff_forall_not_mem.2 fun x hx => ?_
  obtain ⟨_, h1, h2, h3⟩ := mem_moved.1 hx
  by_cases e : x < n
  · have := main x.toNat (by omega)
    rw [Int.toNat_of_nonneg (by omega), h3] at this
    cases this
  · have e2 : x = n := by omega
    subst e2
    rw [mv_eq hr (by omega) (by omega) (by omega), h.last, decide_eq_false (by omega : ¬ (n : Int) = (a : Int)), decide_eq_false (by omega : ¬ (a : Int) ≤ (a : Int) - 1)] at h3
    simp at h3
end
end Go.Proofs.Ytnkboccngialiaa
