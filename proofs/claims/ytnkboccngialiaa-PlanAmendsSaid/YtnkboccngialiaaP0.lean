/- Graphs, plainly: right ones, chains, what lives, what moves, targets, orphans. -/
import Derived.Test.YtnkboccngialiaaK2
namespace Go.Proofs.Ytnkboccngialiaa
open Go.RowKit

/-- The parent. -/
def par (l : List Int) (i : Int) : Int := (l[i.toNat]?).getD (-1)
def rightP (l : List Int) : Bool := (List.range l.length).all fun (i : Nat) => decide (-1 ≤ par l i) && decide (par l i < i)
theorem par_get {l : List Int} {i : Nat} {p : Int} (h : l[i]? = some p) : par l i = p := by
  unfold par; rw [Int.toNat_natCast, h]; rfl
theorem rightP_at {l : List Int} (h : rightP l = true) {i : Int} (h0 : 0 ≤ i) (h1 : i < l.length) : -1 ≤ par l i ∧ par l i < i := by
  unfold rightP at h
  rw [List.all_eq_true] at h
  have := h i.toNat (List.mem_range.2 (by omega))
  rw [Int.toNat_of_nonneg h0] at this
  simpa using this
theorem rightP_no {l : List Int} {i : Nat} {p : Int} (hx : l[i]? = some p) (h : p < -1 ∨ (i : Int) ≤ p) : rightP l = false := by
  unfold rightP
  rw [List.all_eq_false]
  refine ⟨i, List.mem_range.2 (List.getElem?_eq_some_iff.1 hx).1, ?_⟩
  rw [par_get hx]
  simp only [Bool.and_eq_true, decide_eq_true_eq]
  omega
theorem rightP_yes {l : List Int} (h : ∀ (i : Nat) (p : Int), l[i]? = some p → -1 ≤ p ∧ p < i) : rightP l = true := by
  unfold rightP
  rw [List.all_eq_true]
  intro i hi
  have hlt := List.mem_range.1 hi
  have := h i _ (List.getElem?_eq_getElem hlt)
  rw [par_get (List.getElem?_eq_getElem hlt)]
  simpa using this

/-- One, and those above it. -/
def chn (l : List Int) : Nat → Int → List Int
  | 0, _ => []
  | f + 1, b => if b < 0 then [] else b :: chn l f (par l b)
theorem chn_fuel {l : List Int} (h : rightP l = true) : ∀ (f f' : Nat) (b : Int), b < f → b < f' → b < l.length → chn l f b = chn l f' b
  | 0, 0, _, _, _, _ => rfl
  | 0, f' + 1, b, h1, _, _ => by simp only [chn]; rw [if_pos (by omega)]
  | f + 1, 0, b, _, h2, _ => by simp only [chn]; rw [if_pos (by omega)]
  | f + 1, f' + 1, b, h1, h2, h3 => by
    simp only [chn]
    by_cases hb : b < 0
    · rw [if_pos hb, if_pos hb]
    · rw [if_neg hb, if_neg hb]
      have := rightP_at h (i := b) (by omega) h3
      rw [chn_fuel h f f' (par l b) (by omega) (by omega) (by omega)]
def chain (l : List Int) (b : Int) : List Int := if rightP l = true ∧ b < l.length then chn l (l.length + 1) b else []
theorem chain_bad {l : List Int} {b : Int} (h : rightP l = false ∨ (l.length : Int) ≤ b) : chain l b = [] := by
  unfold chain; rw [if_neg]; rintro ⟨h1, h2⟩
  rcases h with h | h
  · rw [h1] at h; cases h
  · omega
theorem chain_neg {l : List Int} {b : Int} (h : b < 0) : chain l b = [] := by
  unfold chain
  split
  · simp only [chn]; rw [if_pos h]
  · rfl
theorem chain_cons {l : List Int} {b : Int} (h : rightP l = true) (h0 : 0 ≤ b) (h1 : b < l.length) : chain l b = b :: chain l (par l b) := by
  have hp := rightP_at h h0 h1
  unfold chain
  rw [if_pos ⟨h, h1⟩, if_pos ⟨h, by omega⟩]
  conv => lhs; simp only [chn]
  rw [if_neg (by omega), chn_fuel h l.length (l.length + 1) (par l b) (by omega) (by omega) (by omega)]
/-- Induction along a chain. -/
theorem chain_ind {l : List Int} (h : rightP l = true) {p : Int → Prop} (hneg : ∀ b : Int, b < 0 → p b) (hstep : ∀ b : Int, 0 ≤ b → b < l.length → p (par l b) → p b) : ∀ (n : Nat) (b : Int), b < n → b < l.length → p b
  | 0, b, h1, _ => hneg b (by omega)
  | n + 1, b, h1, h2 => by
    by_cases hb : b < 0
    · exact hneg b hb
    · have := rightP_at h (i := b) (by omega) h2
      exact hstep b (by omega) h2 (chain_ind h hneg hstep n (par l b) (by omega) (by omega))
theorem chain_mem {l : List Int} {b x : Int} (hx : x ∈ chain l b) : rightP l = true ∧ 0 ≤ x ∧ x ≤ b ∧ b < l.length := by
  by_cases h : rightP l = true ∧ b < l.length
  · refine ⟨h.1, ?_⟩
    suffices hh : 0 ≤ x ∧ x ≤ b from ⟨hh.1, hh.2, h.2⟩
    revert hx
    refine chain_ind h.1 (p := fun b => x ∈ chain l b → 0 ≤ x ∧ x ≤ b) (fun b hb hx => ?_) (fun b h0 h1 ih hx => ?_) (b.toNat + 1) b (by omega) h.2
    · rw [chain_neg hb] at hx; cases hx
    · rw [chain_cons h.1 h0 h1] at hx
      have hp := rightP_at h.1 h0 h1
      rcases List.mem_cons.1 hx with rfl | hx
      · omega
      · have := ih hx; omega
  · unfold chain at hx; rw [if_neg h] at hx; cases hx
theorem chain_len {l : List Int} {b : Int} : (chain l b).length ≤ l.length := by
  by_cases h : rightP l = true ∧ b < l.length
  · have : (chain l b).length ≤ b.toNat + 1 ∧ (b < 0 → chain l b = []) := by
      refine chain_ind h.1 (p := fun b => (chain l b).length ≤ b.toNat + 1 ∧ (b < 0 → chain l b = [])) (fun b hb => ?_) (fun b h0 h1 ih => ?_) (b.toNat + 1) b (by omega) h.2
      · rw [chain_neg hb]; simp
      · have hp := rightP_at h.1 h0 h1
        rw [chain_cons h.1 h0 h1]
        refine ⟨?_, fun h => by omega⟩
        rw [List.length_cons]
        by_cases hn : par l b < 0
        · rw [ih.2 hn]; simp
        · omega
    by_cases hb : b < 0
    · rw [this.2 hb]; simp
    · omega
  · unfold chain; rw [if_neg h]; simp

/-- Is a b, or above it? -/
def above (l : List Int) (a b : Int) : Bool := decide (a ∈ chain l b)
theorem above_up {l : List Int} {a b : Int} (h : rightP l = true) (ha : 0 ≤ a) (hb : a < b) (h1 : b < l.length) : above l a b = above l a (par l b) := by
  unfold above
  rw [chain_cons h (by omega) h1]
  refine decide_eq_decide.2 ⟨fun hx => ?_, fun hx => List.mem_cons_of_mem _ hx⟩
  rcases List.mem_cons.1 hx with rfl | hx
  · omega
  · exact hx
theorem above_end {l : List Int} {a b : Int} (h : rightP l = true) (ha : 0 ≤ a) (hb : b ≤ a) (h1 : b < l.length) : above l a b = decide (a = b) := by
  unfold above
  refine decide_eq_decide.2 ⟨fun hx => ?_, ?_⟩
  · have := chain_mem hx; omega
  · rintro rfl
    rw [chain_cons h ha h1]; simp
theorem above_bad {l : List Int} {a b : Int} (h : ¬ (rightP l = true ∧ 0 ≤ a ∧ a < l.length ∧ 0 ≤ b ∧ b < l.length)) : above l a b = false := by
  unfold above
  refine decide_eq_false fun hx => h ?_
  have := chain_mem hx
  exact ⟨this.1, by omega, by omega, by omega, by omega⟩

/-! ### what lives -/
def liveL (l : List Int) (ms : List MV) : List Int := if rightP l = true then ((List.range l.length).map Int.ofNat).filter fun i => !obs ms i else []
def liveTo (ms : List MV) (k : Nat) : List Int := ((List.range k).map Int.ofNat).filter fun i => !obs ms i
theorem liveTo_succ (ms : List MV) (k : Nat) : liveTo ms (k + 1) = liveTo ms k ++ if obs ms k = true then [] else [(k : Int)] := by
  unfold liveTo
  rw [List.range_succ, List.map_append, List.filter_append]
  congr 1
  cases h : obs ms k with
  | false => simp [h]
  | true => simp [h]
theorem mem_liveL {l : List Int} {ms : List MV} {i : Int} : i ∈ liveL l ms ↔ rightP l = true ∧ 0 ≤ i ∧ i < l.length ∧ obs ms i = false := by
  unfold liveL
  split
  · rename_i h
    rw [List.mem_filter, List.mem_map]
    constructor
    · rintro ⟨⟨k, hk, rfl⟩, ho⟩
      have := List.mem_range.1 hk
      exact ⟨h, by simp, by simpa using this, by simpa using ho⟩
    · rintro ⟨_, h0, h1, ho⟩
      exact ⟨⟨i.toNat, List.mem_range.2 (by omega), by simp; omega⟩, by simpa using ho⟩
  · rename_i h; simp [h]
theorem liveL_len (l : List Int) (ms : List MV) : (liveL l ms).length ≤ l.length := by
  unfold liveL
  split
  · refine Nat.le_trans (List.length_filter_le _ _) (by simp)
  · simp

/-! ### what moves -/
def mvF (l : List Int) (ms : List MV) (s : Int) : Nat → Int → Bool
  | 0, _ => false
  | f + 1, k => !obs ms k && (decide (k = s) || (decide (s ≤ par l k) && mvF l ms s f (par l k)))
theorem mvF_fuel {l : List Int} {ms : List MV} {s : Int} (h : rightP l = true) (hs : 0 ≤ s) : ∀ (f f' : Nat) (b : Int), b < f → b < f' → 0 ≤ b → b < l.length → mvF l ms s f b = mvF l ms s f' b
  | 0, _, b, h1, _, h0, _ => by omega
  | f + 1, 0, b, _, h2, h0, _ => by omega
  | f + 1, f' + 1, b, h1, h2, h0, h3 => by
    simp only [mvF]
    have hp := rightP_at h (i := b) (by omega) h3
    by_cases hc : s ≤ par l b
    · rw [mvF_fuel h hs f f' (par l b) (by omega) (by omega) (by omega) (by omega)]
    · rw [decide_eq_false hc]; simp
def mv (l : List Int) (ms : List MV) (s k : Int) : Bool := mvF l ms s (l.length + 1) k
theorem mv_eq {l : List Int} {ms : List MV} {s k : Int} (h : rightP l = true) (hs : 0 ≤ s) (h0 : 0 ≤ k) (h1 : k < l.length) :
    mv l ms s k = (!obs ms k && (decide (k = s) || (decide (s ≤ par l k) && mv l ms s (par l k)))) := by
  have hp := rightP_at h h0 h1
  unfold mv
  conv => lhs; simp only [mvF]
  by_cases hc : s ≤ par l k
  · rw [mvF_fuel h hs l.length (l.length + 1) (par l k) (by omega) (by omega) (by omega) (by omega)]
  · rw [decide_eq_false hc]; simp
/-- Those that move. -/
def movedTo (l : List Int) (ms : List MV) (s : Int) (k : Nat) : List Int := ((List.range k).map Int.ofNat).filter fun i => decide (s ≤ i) && mv l ms s i
def moved (l : List Int) (ms : List MV) (s : Int) : List Int := if rightP l = true ∧ 0 ≤ s ∧ s < l.length then movedTo l ms s l.length else []
theorem movedTo_succ (l : List Int) (ms : List MV) (s : Int) (k : Nat) : movedTo l ms s (k + 1) = movedTo l ms s k ++ if (decide (s ≤ (k : Int)) && mv l ms s k) = true then [(k : Int)] else [] := by
  unfold movedTo
  rw [List.range_succ, List.map_append, List.filter_append]
  congr 1
  by_cases h : (decide (s ≤ (k : Int)) && mv l ms s k) = true
  · rw [if_pos h]; simp only [List.map_cons, List.map_nil]; rw [List.filter_cons_of_pos (by exact h)]; rfl
  · rw [if_neg h]; simp only [List.map_cons, List.map_nil]; rw [List.filter_cons_of_neg (by exact h)]; rfl
theorem movedTo_none {l : List Int} {ms : List MV} {s : Int} {k : Nat} (h : (k : Int) ≤ s) : movedTo l ms s k = [] := by
  unfold movedTo
  rw [List.filter_eq_nil_iff]
  intro x hx
  obtain ⟨j, hj, rfl⟩ := List.mem_map.1 hx
  have := List.mem_range.1 hj
  simp; omega
theorem movedTo_len (l : List Int) (ms : List MV) (s : Int) (k : Nat) : (movedTo l ms s k).length ≤ k := by
  unfold movedTo; refine Nat.le_trans (List.length_filter_le _ _) (by simp)
theorem mem_moved {l : List Int} {ms : List MV} {s x : Int} : x ∈ moved l ms s ↔ (rightP l = true ∧ 0 ≤ s ∧ s < l.length) ∧ s ≤ x ∧ x < l.length ∧ mv l ms s x = true := by
  unfold moved
  split
  · rename_i h
    unfold movedTo
    rw [List.mem_filter, List.mem_map]
    constructor
    · rintro ⟨⟨k, hk, rfl⟩, ho⟩
      have := List.mem_range.1 hk
      simp only [Bool.and_eq_true, decide_eq_true_eq] at ho
      exact ⟨h, ho.1, by simpa using this, ho.2⟩
    · rintro ⟨_, h0, h1, ho⟩
      exact ⟨⟨x.toNat, List.mem_range.2 (by omega), by simp; omega⟩, by simp [h0, ho]⟩
  · rename_i h; simp [h]
theorem moved_sorted (l : List Int) (ms : List MV) (s : Int) : (moved l ms s).Pairwise (· < ·) := by
  unfold moved
  split
  · unfold movedTo
    refine List.Pairwise.filter _ ?_
    rw [List.pairwise_map]
    exact List.pairwise_lt_range.imp fun h => by simpa using h
  · simp
/-- The document's test: up to the source nobody is obsolete. -/
def okTo (ms : List MV) (s : Int) : List Int → Bool
  | [] => true
  | c :: r => !obs ms c && (decide (c = s) || okTo ms s r)
theorem okTo_mv {l : List Int} {ms : List MV} {s : Int} (h : rightP l = true) (hs : 0 ≤ s) {k : Int} (h0 : 0 ≤ k) (h1 : k < l.length) (hk : s ≤ k) : (above l s k && okTo ms s (chain l k)) = mv l ms s k := by
  have main : ∀ b : Int, b < l.length → 0 ≤ b → s ≤ b → (above l s b && okTo ms s (chain l b)) = mv l ms s b := by
    intro b hb
    refine chain_ind h (p := fun b => 0 ≤ b → s ≤ b → (above l s b && okTo ms s (chain l b)) = mv l ms s b) (fun b hb h0 _ => by omega) (fun b h0 h1 ih _ hsb => ?_) (b.toNat + 1) b (by omega) hb
    have hp := rightP_at h h0 h1
    rw [mv_eq h hs h0 h1, chain_cons h h0 h1]
    simp only [okTo]
    by_cases e : b = s
    · subst e
      have : above l b b = true := by rw [above_end h h0 (Int.le_refl _) h1]; simp
      rw [this]; simp
    · rw [decide_eq_false e, above_up h hs (by omega) h1]
      simp only [Bool.false_or]
      by_cases hc : s ≤ par l b
      · rw [decide_eq_true hc, ← ih (by omega) hc]
        cases above l s (par l b) <;> simp
      · rw [decide_eq_false hc]
        have : above l s (par l b) = false := by
          unfold above
          refine decide_eq_false fun hx => ?_
          have := chain_mem hx; omega
        rw [this]; simp
  exact main k h1 h0 hk

/-! ### where one leads to -/
inductive TargetIs (l : List Int) (ms : List MV) : Int → Int → Prop
  | out {i : Int} : (rightP l = false ∨ i < 0 ∨ (l.length : Int) ≤ i) → TargetIs l ms i (-1)
  | here {i t : Int} {f : List Int} : rightP l = true → 0 ≤ i → i < l.length → FinalIs ms i f → f.getLast? = some t → TargetIs l ms i t
  | up {i t : Int} : rightP l = true → 0 ≤ i → i < l.length → FinalIs ms i [] → TargetIs l ms (par l i) t → TargetIs l ms i t
theorem TargetIs.uniq {l : List Int} {ms : List MV} {i t t' : Int} (h : TargetIs l ms i t) (h' : TargetIs l ms i t') : t = t' := by
  induction h generalizing t' with
  | out h1 =>
    cases h' with
    | out _ => rfl
    | here a b c _ _ => rcases h1 with h1 | h1 | h1 <;> first | (rw [a] at h1; cases h1) | omega
    | up a b c _ _ => rcases h1 with h1 | h1 | h1 <;> first | (rw [a] at h1; cases h1) | omega
  | here a b c hf ht =>
    cases h' with
    | out h1 => rcases h1 with h1 | h1 | h1 <;> first | (rw [a] at h1; cases h1) | omega
    | here _ _ _ hf' ht' => rw [hf.uniq hf'] at ht; rw [ht] at ht'; exact Option.some.inj ht'
    | up _ _ _ hf' _ => rw [hf.uniq hf'] at ht; cases ht
  | up a b c hf _ ih =>
    cases h' with
    | out h1 => rcases h1 with h1 | h1 | h1 <;> first | (rw [a] at h1; cases h1) | omega
    | here _ _ _ hf' ht' => rw [hf'.uniq hf] at ht'; cases ht'
    | up _ _ _ _ hu => exact ih hu

/-! ### who is an orphan -/
def IsOrph (l : List Int) (ms : List MV) (i t : Int) : Prop :=
  0 ≤ par l i ∧ obs ms i = false ∧ obs ms (par l i) = true ∧ TargetIs l ms (par l i) t ∧ t ≠ i ∧ above l i t = false
inductive OrphanIs (l : List Int) (ms : List MV) : Int → Int → Bool → Prop
  | none_ : (rightP l = true → ∀ i : Nat, i < l.length → ∀ t, ¬ IsOrph l ms i t) → OrphanIs l ms (-1) (-1) false
  | some_ {i : Nat} {t : Int} : rightP l = true → i < l.length → IsOrph l ms i t → (∀ j : Nat, j < i → ∀ t, ¬ IsOrph l ms j t) → OrphanIs l ms i t true
theorem OrphanIs.uniq {l : List Int} {ms : List MV} {a b a' b' : Int} {s s' : Bool} (h : OrphanIs l ms a b s) (h' : OrphanIs l ms a' b' s') : a = a' ∧ b = b' ∧ s = s' := by
  cases h with
  | none_ h1 =>
    cases h' with
    | none_ _ => exact ⟨rfl, rfl, rfl⟩
    | some_ hr hl ho _ => exact absurd ho (h1 hr _ hl _)
  | @some_ i t hr hl ho hn =>
    cases h' with
    | none_ h1 => exact absurd ho (h1 hr _ hl _)
    | @some_ j u _ hl' ho' hn' =>
      have e : i = j := by
        rcases Nat.lt_trichotomy i j with h | h | h
        · exact absurd ho (hn' i h _)
        · exact h
        · exact absurd ho' (hn j h _)
      subst e
      exact ⟨rfl, ho.2.2.2.1.uniq ho'.2.2.2.1, rfl⟩
end Go.Proofs.Ytnkboccngialiaa
