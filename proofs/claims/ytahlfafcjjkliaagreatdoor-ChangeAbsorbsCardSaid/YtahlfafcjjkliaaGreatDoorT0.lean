/- Paths and trees in plain words: what stands between slashes, what is right, what leads into what. -/
import Derived.Test.YtahlfafcjjkliaaGreatDoorPlain
import Derived.Lib.SplitLaws
namespace Go.Proofs.YtahlfafcjjkliaaGreatDoor
open Go.RowKit

abbrev Bs := List UInt8
/-- What stands between slashes. -/
def parts : Bs → List Bs
  | [] => [[]]
  | c :: cs => if c = 47 then [] :: parts cs else match parts cs with
    | h :: t => (c :: h) :: t
    | [] => [[c]]
theorem parts_ne (s : Bs) : parts s ≠ [] := by
  cases s with
  | nil => simp [parts]
  | cons c cs =>
    unfold parts
    by_cases h : c = 47
    · rw [if_pos h]; simp
    · rw [if_neg h]; split <;> simp
theorem parts_none : ∀ {s : Bs}, 47 ∉ s → parts s = [s]
  | [], _ => rfl
  | c :: cs, h => by
    have hc : c ≠ 47 := fun e => h (by simp [e])
    rw [parts, if_neg hc, parts_none (s := cs) fun hm => h (List.mem_cons_of_mem _ hm)]
theorem parts_cut : ∀ {a : Bs} (b : Bs), 47 ∉ a → parts (a ++ 47 :: b) = a :: parts b
  | [], b, _ => by rw [List.nil_append, parts, if_pos rfl]
  | c :: cs, b, h => by
    have hc : c ≠ 47 := fun e => h (by simp [e])
    rw [List.cons_append, parts, if_neg hc, parts_cut (a := cs) b fun hm => h (List.mem_cons_of_mem _ hm)]
theorem parts_clean : ∀ (s : Bs) p, p ∈ parts s → 47 ∉ p
  | [], p, h => by simp [parts] at h; subst h; simp
  | c :: cs, p, h => by
    unfold parts at h
    by_cases hc : c = 47
    · rw [if_pos hc] at h
      rcases List.mem_cons.1 h with rfl | h
      · simp
      · exact parts_clean cs p h
    · rw [if_neg hc] at h
      have ih := parts_clean cs
      split at h
      · rename_i h0 t e
        rcases List.mem_cons.1 h with rfl | h
        · intro hm
          rcases List.mem_cons.1 hm with e2 | e2
          · exact hc e2.symm
          · exact ih h0 (by rw [e]; exact List.mem_cons_self ..) e2
        · exact ih p (by rw [e]; exact List.mem_cons_of_mem _ h)
      · rename_i e; exact absurd e (parts_ne cs)
/-- Pieces, with a slash ahead of each one. -/
def tailJ (ss : List Bs) : Bs := ss.flatMap (47 :: ·)
theorem parts_join : ∀ (s : Bs), ∃ p ps, parts s = p :: ps ∧ s = p ++ tailJ ps
  | [] => ⟨[], [], rfl, rfl⟩
  | c :: cs => by
    obtain ⟨p, ps, h1, h2⟩ := parts_join cs
    unfold parts
    by_cases hc : c = 47
    · rw [if_pos hc]
      refine ⟨[], parts cs, rfl, ?_⟩
      rw [h1, tailJ, List.flatMap_cons, ← tailJ, hc, List.nil_append]
      simp [← h2]
    · rw [if_neg hc, h1]
      exact ⟨c :: p, ps, rfl, by rw [List.cons_append, ← h2]⟩
theorem has_slash : ∀ {s : Bs}, 47 ∈ s → ∃ a b, s = a ++ 47 :: b ∧ 47 ∉ a
  | c :: cs, h => by
    by_cases hc : c = 47
    · exact ⟨[], cs, by rw [hc]; rfl, by simp⟩
    · obtain ⟨a, b, e, ha⟩ := has_slash (s := cs) (by rcases List.mem_cons.1 h with e | e; exact absurd e.symm hc; exact e)
      exact ⟨c :: a, b, by rw [e]; rfl, fun hm => by rcases List.mem_cons.1 hm with e | e; exact hc e.symm; exact ha e⟩

/-! ### the library's Split -/
theorem index_none47 : ∀ {s : Bs}, 47 ∉ s → Lib.index s [47] = -1
  | [], _ => by simp [Lib.index]
  | c :: cs, h => by
    have hc : c ≠ 47 := fun e => h (by simp [e])
    have hc2 : ((47 : UInt8) == c) = false := by simp; exact fun e => hc e.symm
    rw [Lib.index, index_none47 (s := cs) fun hm => h (List.mem_cons_of_mem _ hm)]
    simp [List.isPrefixOf, hc2]
theorem index_at47 : ∀ {a : Bs} (b : Bs), 47 ∉ a → Lib.index (a ++ 47 :: b) [47] = a.length
  | [], b, _ => by rw [List.nil_append, Lib.index]; simp [List.isPrefixOf]
  | c :: cs, b, h => by
    have hc : c ≠ 47 := fun e => h (by simp [e])
    have hc2 : ((47 : UInt8) == c) = false := by simp; exact fun e => hc e.symm
    have ih := index_at47 (a := cs) b fun hm => h (List.mem_cons_of_mem _ hm)
    rw [List.cons_append, Lib.index, ih]
    simp [List.isPrefixOf, hc2]
theorem splitK_parts : ∀ (k : Nat) (s : Bs), s.count 47 = k → Lib.splitK [47] 0 k s = parts s
  | 0, s, h => by
    rw [parts_none (List.count_eq_zero.1 h)]; rfl
  | k + 1, s, h => by
    have hm : 47 ∈ s := by
      rw [← List.count_pos_iff]; omega
    obtain ⟨a, b, rfl, ha⟩ := has_slash hm
    have hb : b.count 47 = k := by
      rw [List.count_append, List.count_cons_self, List.count_eq_zero.2 ha] at h; omega
    rw [parts_cut b ha, Lib.splitK, index_at47 b ha, if_neg (by simp)]
    have e : ((a.length : Int)).toNat = a.length := by omega
    rw [e, Nat.add_zero, List.take_left, List.length_singleton, List.drop_append, List.drop_of_length_le (by omega), Nat.add_sub_cancel_left, List.nil_append]
    rw [show List.drop 1 (47 :: b) = b from rfl, splitK_parts k b hb]
theorem split_parts (s : ByteArray) : (Lib.splitB ⟨#[47]⟩ 0 (Lib.countB s ⟨#[47]⟩) s).map (·.data.toList) = parts s.data.toList := by
  rw [Lib.splitB_data]
  refine splitK_parts _ _ ?_
  rw [← Lib.count_one]

/-! ### paths -/
def byteOk (c : UInt8) : Bool := decide (33 ≤ c.toNat) && decide (c.toNat ≤ 126)
def partOk (p : Bs) : Bool := !decide (p = []) && !decide (p = [46]) && !decide (p = [46, 46])
def pathOk (s : Bs) : Bool := decide (1 ≤ s.length) && decide (s.length ≤ 100) && s.all byteOk && (parts s).all partOk
/-- A path leads into another one. -/
def within (p d : Bs) : Bool := (d ++ [47]).isPrefixOf p
theorem within_iff {p d : Bs} : within p d = true ↔ ∃ r, p = d ++ 47 :: r := by
  rw [within, List.isPrefixOf_iff_prefix]
  constructor
  · rintro ⟨r, h⟩; exact ⟨r, by rw [← h]; simp⟩
  · rintro ⟨r, h⟩; exact ⟨r, by rw [h]; simp⟩
theorem within_lt {p d : Bs} (h : within p d = true) : d.length < p.length := by
  obtain ⟨r, rfl⟩ := within_iff.1 h
  simp
/-- Is one of some on the way: looked up piece by piece. -/
def way (m : Bs → Bool) (at_ : Bs) : List Bs → Bool
  | [] => false
  | s :: ss => m at_ || way m (at_ ++ 47 :: s) ss
theorem way_iff {m : Bs → Bool} : ∀ {ss : List Bs} {at_ : Bs}, (∀ s ∈ ss, 47 ∉ s) → (way m at_ ss = true ↔ ∃ q r, m q = true ∧ at_.length ≤ q.length ∧ at_ ++ tailJ ss = q ++ 47 :: r)
  | [], at_, _ => by
    constructor
    · intro h; cases h
    · rintro ⟨q, r, _, hl, e⟩
      have := congrArg List.length e
      simp [tailJ] at this; omega
  | s :: ss, at_, hc => by
    have ih := way_iff (m := m) (ss := ss) (at_ := at_ ++ 47 :: s) fun x hx => hc x (List.mem_cons_of_mem _ hx)
    have hJ : at_ ++ tailJ (s :: ss) = (at_ ++ 47 :: s) ++ tailJ ss := by simp [tailJ]
    rw [way, Bool.or_eq_true, ih, hJ]
    constructor
    · rintro (h | ⟨q, r, h1, h2, h3⟩)
      · exact ⟨at_, s ++ tailJ ss, h, Nat.le_refl _, by simp⟩
      · exact ⟨q, r, h1, by simp at h2; omega, h3⟩
    · rintro ⟨q, r, h1, h2, h3⟩
      by_cases hq : q.length = at_.length
      · left
        have : (at_ ++ 47 :: s ++ tailJ ss).take at_.length = (q ++ 47 :: r).take at_.length := by rw [h3]
        rw [← hq] at this
        simp [hq] at this
        rw [this]; exact h1
      · refine .inr ⟨q, r, h1, ?_, h3⟩
        rcases Nat.lt_or_ge q.length (at_ ++ 47 :: s).length with hlt | hge
        · exfalso
          have hg : (at_ ++ 47 :: s ++ tailJ ss)[q.length]? = some 47 := by rw [h3]; simp
          rw [List.getElem?_append_left hlt, List.getElem?_append_right h2] at hg
          obtain ⟨j, hj⟩ : ∃ j, q.length - at_.length = j + 1 := ⟨q.length - at_.length - 1, by omega⟩
          rw [hj, List.getElem?_cons_succ] at hg
          exact hc s (List.mem_cons_self ..) (List.mem_of_getElem? hg)
        · exact hge
theorem way_parts {m : Bs → Bool} {p s : Bs} {ss : List Bs} (h : parts p = s :: ss) : way m s ss = true ↔ ∃ q, m q = true ∧ within p q = true := by
  obtain ⟨s', ss', h1, h2⟩ := parts_join p
  rw [h] at h1
  injection h1 with e1 e2
  subst e1 e2
  have hc : ∀ x, x ∈ s :: ss → 47 ∉ x := fun x hx => parts_clean p x (by rw [h]; exact hx)
  rw [way_iff fun x hx => hc x (List.mem_cons_of_mem _ hx)]
  constructor
  · rintro ⟨q, r, h3, _, h4⟩
    exact ⟨q, h3, within_iff.2 ⟨r, by rw [h2]; exact h4⟩⟩
  · rintro ⟨q, h3, h4⟩
    obtain ⟨r, hr⟩ := within_iff.1 h4
    refine ⟨q, r, h3, ?_, by rw [← h2]; exact hr⟩
    rcases Nat.lt_or_ge q.length s.length with hlt | hge
    · exfalso
      have hg : (s ++ tailJ ss)[q.length]? = some 47 := by rw [← h2, hr]; simp
      rw [List.getElem?_append_left hlt] at hg
      exact hc s (List.mem_cons_self ..) (List.mem_of_getElem? hg)
    · exact hge

/-! ### trees -/
structure FV where
  path : ByteArray
  exec : Bool
  text : ByteArray
deriving DecidableEq
def FV.cells (f : FV) : List Value := [.string f.path, .bool f.exec, .string f.text]
def FV.p (f : FV) : Bs := f.path.data.toList
/-- One path behind the other. -/
def bl (a b : Bs) : Bool := decide (a < b)
def FileOk (f : FV) : Prop := pathOk f.p = true ∧ f.text.size ≤ 20000
def Rise (l : List FV) : Prop := ∀ i a b, l[i]? = some a → l[i + 1]? = some b → a.p < b.p
def TreeOk (l : List FV) : Prop := l.length ≤ 100 ∧ (∀ f ∈ l, FileOk f) ∧ Rise l ∧ ∀ f ∈ l, ∀ g ∈ l, within f.p g.p = false
open Classical in
noncomputable def treeOk (l : List FV) : Bool := decide (TreeOk l)
theorem treeOk_iff {l : List FV} : treeOk l = true ↔ TreeOk l := by simp [treeOk]
def clashP (a b : Bs) : Bool := decide (a = b) || within a b || within b a
theorem lt_trans_bs {a b c : Bs} (h1 : a < b) (h2 : b < c) : a < c := List.lt_trans h1 h2
theorem Rise.lt {l : List FV} (h : Rise l) : ∀ {i j : Nat} {a b : FV}, i < j → l[i]? = some a → l[j]? = some b → a.p < b.p := by
  intro i j
  induction j with
  | zero => intro a b hij; omega
  | succ j ih =>
    intro a b hij ha hb
    have hj : j < l.length := by have := (List.getElem?_eq_some_iff.1 hb).1; omega
    by_cases e : i = j
    · subst e; exact h i a b ha hb
    · exact lt_trans_bs (ih (by omega) ha (List.getElem?_eq_getElem hj)) (h j _ b (List.getElem?_eq_getElem hj) hb)
theorem ne_of_lt_bs {a b : Bs} (h : a < b) : a ≠ b := fun e => by subst e; exact List.lt_irrefl _ h
/-- The document's order of asking: pair by pair. -/
theorem tree_pairs {l : List FV} (hl : l.length ≤ 100) (hf : ∀ f ∈ l, FileOk f) (hr : Rise l) (hp : ∀ (i j : Nat) (a b : FV), j < i → l[i]? = some a → l[j]? = some b → clashP b.p a.p = false) : TreeOk l := by
  refine ⟨hl, hf, hr, fun f h1 g h2 => ?_⟩
  obtain ⟨i, hi, rfl⟩ := List.getElem_of_mem h1
  obtain ⟨j, hj, rfl⟩ := List.getElem_of_mem h2
  rcases Nat.lt_trichotomy i j with h | h | h
  · have := hp j i _ _ h (List.getElem?_eq_getElem hj) (List.getElem?_eq_getElem hi)
    simp only [clashP, Bool.or_eq_false_iff] at this
    exact this.1.2
  · subst h
    cases e : within l[i].p l[i].p with
    | false => rfl
    | true => have := within_lt e; omega
  · have := hp i j _ _ h (List.getElem?_eq_getElem hi) (List.getElem?_eq_getElem hj)
    simp only [clashP, Bool.or_eq_false_iff] at this
    exact this.2
theorem TreeOk.pair {l : List FV} (h : TreeOk l) {i j : Nat} {a b : FV} (hij : j < i) (ha : l[i]? = some a) (hb : l[j]? = some b) : clashP b.p a.p = false := by
  have h1 := h.2.2.2 b (List.mem_of_getElem? hb) a (List.mem_of_getElem? ha)
  have h2 := h.2.2.2 a (List.mem_of_getElem? ha) b (List.mem_of_getElem? hb)
  simp [clashP, h1, h2, ne_of_lt_bs (h.2.2.1.lt hij hb ha)]
end Go.Proofs.YtahlfafcjjkliaaGreatDoor
