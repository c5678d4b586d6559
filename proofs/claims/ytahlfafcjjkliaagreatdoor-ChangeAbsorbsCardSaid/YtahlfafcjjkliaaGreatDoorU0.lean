/- Plain laws: what is found, put, and dropped. -/
import Derived.Test.YtahlfafcjjkliaaGreatDoorT8
namespace Go.Proofs.YtahlfafcjjkliaaGreatDoor
open Go.RowKit

def hasP (l : List FV) (p : ByteArray) : Bool := l.any fun f => decide (f.path = p)
def findP (l : List FV) (p : ByteArray) : Option FV := l.find? fun f => decide (f.path = p)
def without (l : List FV) (p : ByteArray) : List FV := l.filter fun f => !decide (f.path = p)
def lessF (f x : FV) : Bool := decide (x.p < f.p)
def sortedIn (l : List FV) (f : FV) : List FV := l.takeWhile (lessF f) ++ f :: l.dropWhile (lessF f)
def clashF (l : List FV) (p : ByteArray) : Bool := l.any fun f => !decide (f.path = p) && clashP f.p p.data.toList
/-- What is put, or why not. -/
noncomputable def putF (l : List FV) (f : FV) : List FV × Int :=
  if treeOk l = false then ([], 5) else if pathOk f.p = false then ([], 11) else if 20000 < f.text.size then ([], 6)
  else if hasP l f.path = true then (sortedIn (without l f.path) f, 0)
  else if clashF l f.path = true then ([], 11) else if 100 ≤ l.length then ([], 6) else (sortedIn l f, 0)
noncomputable def dropF (l : List FV) (p : ByteArray) : List FV × Int :=
  if treeOk l = false then ([], 5) else if hasP l p = false then ([], 8) else (without l p, 0)

theorem FV.p_inj {f g : FV} : f.p = g.p ↔ f.path = g.path := by
  constructor
  · intro h
    exact ba_ext h
  · intro h; rw [FV.p, h, FV.p]
theorem hasP_iff {l : List FV} {p : ByteArray} : hasP l p = true ↔ ∃ f ∈ l, f.path = p := by simp [hasP]
theorem findP_none {l : List FV} {p : ByteArray} : findP l p = none ↔ hasP l p = false := by
  simp [findP, hasP]
theorem findP_some {l : List FV} {p : ByteArray} {f : FV} (h : findP l p = some f) : f ∈ l ∧ f.path = p := by
  have h1 := List.find?_some h
  exact ⟨List.mem_of_find?_eq_some h, by simpa using h1⟩
/-- The first place at which one is. -/
def FirstAt (q : FV → Bool) (l : List FV) (k : Nat) (f : FV) : Prop := l[k]? = some f ∧ q f = true ∧ ∀ j g, j < k → l[j]? = some g → q g = false
theorem FirstAt.take_false {q : FV → Bool} {l : List FV} {k : Nat} {f : FV} (h : FirstAt q l k f) : ∀ g ∈ l.take k, q g = false := by
  intro g hg
  obtain ⟨j, hj, e⟩ := List.getElem_of_mem hg
  rw [List.length_take] at hj
  rw [List.getElem_take] at e
  exact h.2.2 j g (by omega) (by rw [← e]; exact List.getElem?_eq_getElem _)
theorem FirstAt.split {q : FV → Bool} {l : List FV} {k : Nat} {f : FV} (h : FirstAt q l k f) : l = l.take k ++ f :: l.drop (k + 1) := by
  have hk := (List.getElem?_eq_some_iff.1 h.1).1
  have e : l[k] = f := (List.getElem?_eq_some_iff.1 h.1).2
  rw [← e, List.getElem_cons_drop, List.take_append_drop]
theorem FirstAt.find {l : List FV} {k : Nat} {f : FV} {p : ByteArray} (h : FirstAt (fun x => decide (x.path = p)) l k f) : findP l p = some f := by
  have h1 := h.take_false
  have h2 := h.2.1
  rw [findP, h.split, List.find?_append]
  have h3 : (l.take k).find? (fun x => decide (x.path = p)) = none := by
    rw [List.find?_eq_none]
    intro x hx; simp [h1 x hx]
  rw [h3, List.find?_cons]
  simp only [h2]; rfl
theorem FirstAt.has {l : List FV} {k : Nat} {f : FV} {p : ByteArray} (h : FirstAt (fun x => decide (x.path = p)) l k f) : hasP l p = true :=
  hasP_iff.2 ⟨f, List.mem_of_getElem? h.1, by simpa using h.2.1⟩
theorem findP_no {l : List FV} {p : ByteArray} (h : ∀ f ∈ l, decide (f.path = p) = false) : findP l p = none ∧ hasP l p = false := by
  have h1 : hasP l p = false := by
    cases e : hasP l p with
    | false => rfl
    | true =>
      obtain ⟨f, hf, e2⟩ := hasP_iff.1 e
      have := h f hf
      simp [e2] at this
  exact ⟨findP_none.2 h1, h1⟩

/-! ### order -/
theorem Rise.pair {l : List FV} (h : Rise l) : l.Pairwise fun a b => a.p < b.p := by
  rw [List.pairwise_iff_getElem]
  intro i j hi hj hij
  exact h.lt hij (List.getElem?_eq_getElem hi) (List.getElem?_eq_getElem hj)
theorem rise_of_pair {l : List FV} (h : l.Pairwise fun a b => a.p < b.p) : Rise l := by
  intro i a b ha hb
  obtain ⟨hi, rfl⟩ := List.getElem?_eq_some_iff.1 ha
  obtain ⟨hj, rfl⟩ := List.getElem?_eq_some_iff.1 hb
  exact List.pairwise_iff_getElem.1 h i (i + 1) hi hj (by omega)
theorem not_lt_self (a : Bs) : ¬ a < a := List.lt_irrefl a
theorem lt_asymm_bs {a b : Bs} (h : a < b) : ¬ b < a := List.lt_asymm h

theorem takeWhile_all {q : FV → Bool} : ∀ {l : List FV}, (∀ x ∈ l, q x = true) → l.takeWhile q = l
  | [], _ => rfl
  | x :: l, h => by rw [List.takeWhile_cons, if_pos (h x (by simp)), takeWhile_all fun y hy => h y (by simp [hy])]
theorem dropWhile_all {q : FV → Bool} : ∀ {l : List FV}, (∀ x ∈ l, q x = true) → l.dropWhile q = []
  | [], _ => rfl
  | x :: l, h => by rw [List.dropWhile_cons, if_pos (h x (by simp)), dropWhile_all fun y hy => h y (by simp [hy])]
theorem takeWhile_cut {q : FV → Bool} {a b : List FV} (ha : ∀ x ∈ a, q x = true) (hb : ∀ x, b[0]? = some x → q x = false) : (a ++ b).takeWhile q = a ∧ (a ++ b).dropWhile q = b := by
  induction a with
  | nil =>
    cases b with
    | nil => exact ⟨rfl, rfl⟩
    | cons x b =>
      have := hb x rfl
      simp [this]
  | cons x a ih =>
    obtain ⟨h1, h2⟩ := ih fun y hy => ha y (by simp [hy])
    have hx := ha x (by simp)
    simp only [List.cons_append, List.takeWhile_cons, List.dropWhile_cons, hx, if_true, h1, h2, and_self]
theorem sortedIn_cut {a b : List FV} {f : FV} (ha : ∀ x ∈ a, x.p < f.p) (hb : ∀ x, b[0]? = some x → ¬ x.p < f.p) : sortedIn (a ++ b) f = a ++ f :: b := by
  obtain ⟨h1, h2⟩ := takeWhile_cut (q := lessF f) (a := a) (b := b) (fun x hx => decide_eq_true (ha x hx)) (fun x hx => decide_eq_false (hb x hx))
  rw [sortedIn, h1, h2]
/-- Replaced in its place. -/
theorem put_old {l : List FV} (hr : Rise l) {k : Nat} {g f : FV} (hg : l[k]? = some g) (hp : g.path = f.path) : sortedIn (without l f.path) f = l.set k f := by
  have hk := (List.getElem?_eq_some_iff.1 hg).1
  have e : l[k] = g := (List.getElem?_eq_some_iff.1 hg).2
  have hs : l = l.take k ++ g :: l.drop (k + 1) := by rw [← e, List.getElem_cons_drop, List.take_append_drop]
  have hpw := hr.pair
  rw [hs, List.pairwise_append] at hpw
  obtain ⟨_, h2, h3⟩ := hpw
  have hlo : ∀ x ∈ l.take k, x.p < f.p := fun x hx => by rw [FV.p_inj.2 hp.symm]; exact h3 x hx g (by simp)
  have hhi : ∀ x ∈ l.drop (k + 1), f.p < x.p := fun x hx => by rw [FV.p_inj.2 hp.symm]; exact (List.pairwise_cons.1 h2).1 x hx
  have hne1 : ∀ x ∈ l.take k, (!decide (x.path = f.path)) = true := fun x hx => by
    have := ne_of_lt_bs (hlo x hx)
    simpa using fun h => this (FV.p_inj.2 h)
  have hne2 : ∀ x ∈ l.drop (k + 1), (!decide (x.path = f.path)) = true := fun x hx => by
    have := ne_of_lt_bs (hhi x hx)
    simpa using fun h => this (FV.p_inj.2 h.symm)
  have hw : without l f.path = l.take k ++ l.drop (k + 1) := by
    rw [without]
    conv => lhs; rw [hs]
    rw [List.filter_append, List.filter_cons, hp, List.filter_eq_self.2 hne1, List.filter_eq_self.2 hne2]
    simp
  rw [hw, sortedIn_cut hlo (fun x hx => lt_asymm_bs (hhi x (List.mem_of_getElem? hx))), List.set_eq_take_append_cons_drop, if_pos hk]
/-- Where a new one goes. -/
theorem put_new {l : List FV} (hr : Rise l) {f : FV} (hn : hasP l f.path = false) {k : Nat} (hk : k ≤ l.length) (hlo : ∀ j g, j < k → l[j]? = some g → ¬ f.p < g.p) (hhi : ∀ g, l[k]? = some g → f.p < g.p) : sortedIn l f = l.take k ++ f :: l.drop k := by
  have hno : ∀ x ∈ l, x.p ≠ f.p := fun x hx e => by
    have := hasP_iff.2 ⟨x, hx, FV.p_inj.1 e⟩
    rw [hn] at this; cases this
  conv => lhs; rw [← List.take_append_drop k l]
  refine sortedIn_cut (fun x hx => ?_) fun x hx => ?_
  · have hm := List.mem_of_mem_take hx
    obtain ⟨j, hj, e⟩ := List.getElem_of_mem hx
    rw [List.length_take] at hj
    rw [List.getElem_take] at e
    have h1 := hlo j x (by omega) (by rw [← e]; exact List.getElem?_eq_getElem _)
    rcases bs_tri x.p f.p with h | h | h
    · exact h
    · exact absurd h (hno x hm)
    · exact absurd h h1
  · rw [List.getElem?_drop, Nat.add_zero] at hx
    exact lt_asymm_bs (hhi x hx)
theorem without_none {l : List FV} {p : ByteArray} (h : hasP l p = false) : without l p = l := by
  refine List.filter_eq_self.2 fun x hx => ?_
  have h1 : ¬ x.path = p := fun e => by rw [hasP_iff.2 ⟨x, hx, e⟩] at h; cases h
  simp [h1]
/-- Struck at its place. -/
theorem drop_at {l : List FV} (hr : Rise l) {k : Nat} {g : FV} {p : ByteArray} (hg : l[k]? = some g) (hp : g.path = p) : without l p = l.take k ++ l.drop (k + 1) := by
  have hk := (List.getElem?_eq_some_iff.1 hg).1
  have e : l[k] = g := (List.getElem?_eq_some_iff.1 hg).2
  have hs : l = l.take k ++ g :: l.drop (k + 1) := by rw [← e, List.getElem_cons_drop, List.take_append_drop]
  have hpw := hr.pair
  rw [hs, List.pairwise_append] at hpw
  obtain ⟨_, h2, h3⟩ := hpw
  have hne1 : ∀ x ∈ l.take k, (!decide (x.path = p)) = true := fun x hx => by
    have := ne_of_lt_bs (h3 x hx g (by simp))
    simpa using fun h => this (FV.p_inj.2 (h.trans hp.symm))
  have hne2 : ∀ x ∈ l.drop (k + 1), (!decide (x.path = p)) = true := fun x hx => by
    have := ne_of_lt_bs ((List.pairwise_cons.1 h2).1 x hx)
    simpa using fun h => this (FV.p_inj.2 (hp.trans h.symm))
  rw [without]
  conv => lhs; rw [hs]
  rw [List.filter_append, List.filter_cons, hp, List.filter_eq_self.2 hne1, List.filter_eq_self.2 hne2]
  simp
end Go.Proofs.YtahlfafcjjkliaaGreatDoor
