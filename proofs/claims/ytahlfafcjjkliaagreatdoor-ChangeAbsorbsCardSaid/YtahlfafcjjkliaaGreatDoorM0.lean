/- Plain laws of trees: what is put is there, what is dropped is gone, others stay; a tree stays one. -/
import Derived.Test.YtahlfafcjjkliaaGreatDoorL1
namespace Go.Proofs.YtahlfafcjjkliaaGreatDoor

theorem without_mem {l : List FV} {p : ByteArray} {g : FV} : g ∈ without l p ↔ g ∈ l ∧ g.path ≠ p := by simp [without, List.mem_filter]
theorem without_rise {l : List FV} (h : Rise l) (p : ByteArray) : Rise (without l p) := rise_of_pair (h.pair.sublist List.filter_sublist)
theorem treeOk_without {l : List FV} (h : treeOk l = true) (p : ByteArray) : treeOk (without l p) = true := by
  obtain ⟨h1, h2, h3, h4⟩ := treeOk_iff.1 h
  exact treeOk_iff.2 ⟨Nat.le_trans (without_len l p) h1, fun f hf => h2 f (without_mem.1 hf).1, without_rise h3 p, fun f hf g hg => h4 f (without_mem.1 hf).1 g (without_mem.1 hg).1⟩
theorem sortedIn_mem {l : List FV} {f g : FV} : g ∈ sortedIn l f ↔ g = f ∨ g ∈ l := by
  rw [sortedIn, List.mem_append, List.mem_cons]
  conv => rhs; rw [← List.takeWhile_append_dropWhile (p := lessF f) (l := l), List.mem_append]
  constructor
  · rintro (h | h | h)
    · exact .inr (.inl h)
    · exact .inl h
    · exact .inr (.inr h)
  · rintro (h | h | h)
    · exact .inr (.inl h)
    · exact .inl h
    · exact .inr (.inr h)
theorem hasP_mem {l : List FV} {p : ByteArray} (h : hasP l p = false) {g : FV} (hg : g ∈ l) : g.path ≠ p := fun e => by
  have := hasP_iff.2 ⟨g, hg, e⟩
  rw [h] at this; cases this
/-- The place of a new one. -/
theorem place_new {l : List FV} (hr : Rise l) {f : FV} (hn : hasP l f.path = false) : ∃ a b : List FV, l = a ++ b ∧ sortedIn l f = a ++ f :: b ∧ (∀ x ∈ a, x.p < f.p) ∧ ∀ x ∈ b, f.p < x.p := by
  refine ⟨l.takeWhile (lessF f), l.dropWhile (lessF f), (List.takeWhile_append_dropWhile).symm, rfl, fun x hx => ?_, fun x hx => ?_⟩
  · have : ∀ {l : List FV} {x : FV}, x ∈ l.takeWhile (lessF f) → lessF f x = true := by
      intro l
      induction l with
      | nil => intro x h; cases h
      | cons y l ih =>
        intro x h
        rw [List.takeWhile_cons] at h
        split at h
        · rename_i hy
          rcases List.mem_cons.1 h with rfl | h
          · exact hy
          · exact ih h
        · cases h
    exact of_decide_eq_true (this hx)
  · have : ∀ {l : List FV}, (l.Pairwise fun a b => a.p < b.p) → (∀ y ∈ l, y.path ≠ f.path) → ∀ x ∈ l.dropWhile (lessF f), f.p < x.p := by
      intro l
      induction l with
      | nil => intro _ _ x h; cases h
      | cons y l ih =>
        intro hp hne x h
        have hp2 := List.pairwise_cons.1 hp
        rw [List.dropWhile_cons] at h
        split at h
        · exact ih hp2.2 (fun z hz => hne z (List.mem_cons_of_mem _ hz)) x h
        · rename_i hy
          have hyf : f.p < y.p := by
            rcases bs_tri y.p f.p with e | e | e
            · exact absurd (decide_eq_true e) hy
            · exact absurd (FV.p_inj.1 e) (hne y (by simp))
            · exact e
          rcases List.mem_cons.1 h with rfl | h
          · exact hyf
          · exact lt_trans_bs hyf (hp2.1 x h)
    exact this hr.pair (fun y hy => hasP_mem hn hy) x hx
theorem sortedIn_rise {l : List FV} (hr : Rise l) {f : FV} (hn : hasP l f.path = false) : Rise (sortedIn l f) := by
  obtain ⟨a, b, e, e2, ha, hb⟩ := place_new hr hn
  have hp := hr.pair
  rw [e, List.pairwise_append] at hp
  rw [e2]
  refine rise_of_pair (List.pairwise_append.2 ⟨hp.1, List.pairwise_cons.2 ⟨hb, hp.2.1⟩, fun x hx y hy => ?_⟩)
  rcases List.mem_cons.1 hy with rfl | hy
  · exact ha x hx
  · exact lt_trans_bs (ha x hx) (hb y hy)
theorem hasP_without (l : List FV) (p : ByteArray) : hasP (without l p) p = false := by
  cases h : hasP (without l p) p with
  | false => rfl
  | true =>
    obtain ⟨g, hg, e⟩ := hasP_iff.1 h
    exact absurd e (without_mem.1 hg).2
theorem rise_inj {l : List FV} (hr : Rise l) {f g : FV} (hf : f ∈ l) (hg : g ∈ l) (e : f.path = g.path) : f = g := by
  obtain ⟨i, hi, rfl⟩ := List.getElem_of_mem hf
  obtain ⟨j, hj, rfl⟩ := List.getElem_of_mem hg
  rcases Nat.lt_trichotomy i j with h | h | h
  · exact absurd (FV.p_inj.2 e) (ne_of_lt_bs (hr.lt h (List.getElem?_eq_getElem hi) (List.getElem?_eq_getElem hj)))
  · subst h; rfl
  · exact absurd (FV.p_inj.2 e).symm (ne_of_lt_bs (hr.lt h (List.getElem?_eq_getElem hj) (List.getElem?_eq_getElem hi)))
theorem findP_iff {l : List FV} (hr : Rise l) {p : ByteArray} {g : FV} : findP l p = some g ↔ g ∈ l ∧ g.path = p := by
  constructor
  · exact findP_some
  · rintro ⟨hg, e⟩
    cases h : findP l p with
    | none =>
      have := findP_none.1 h
      exact absurd e (hasP_mem this hg)
    | some x =>
      obtain ⟨hx, ex⟩ := findP_some h
      rw [rise_inj hr hx hg (ex.trans e.symm)]
theorem findP_ext {l m : List FV} (hl : Rise l) (hm : Rise m) {p : ByteArray} (h : ∀ g : FV, g.path = p → (g ∈ l ↔ g ∈ m)) : findP l p = findP m p := by
  cases e : findP l p with
  | some g =>
    obtain ⟨h1, h2⟩ := findP_some e
    exact ((findP_iff hm).2 ⟨(h g h2).1 h1, h2⟩).symm
  | none =>
    cases e2 : findP m p with
    | none => rfl
    | some g =>
      obtain ⟨h1, h2⟩ := findP_some e2
      rw [(findP_iff hl).2 ⟨(h g h2).2 h1, h2⟩] at e
      cases e
/-- Two trees with the same files are the same. -/
theorem rise_uniq : ∀ {a b : List FV}, (a.Pairwise fun x y => x.p < y.p) → (b.Pairwise fun x y => x.p < y.p) → (∀ x, x ∈ a ↔ x ∈ b) → a = b
  | [], [], _, _, _ => rfl
  | [], y :: b, _, _, h => absurd ((h y).2 (by simp)) (by simp)
  | x :: a, [], _, _, h => absurd ((h x).1 (by simp)) (by simp)
  | x :: a, y :: b, ha, hb, h => by
    have ha2 := List.pairwise_cons.1 ha
    have hb2 := List.pairwise_cons.1 hb
    have hxy : x = y := by
      rcases List.mem_cons.1 ((h x).1 (by simp)) with e | h1
      · exact e
      · rcases List.mem_cons.1 ((h y).2 (by simp)) with e | h2
        · exact e.symm
        · exact absurd (lt_trans_bs (ha2.1 y h2) (hb2.1 x h1)) (not_lt_self _)
    subst hxy
    refine congrArg _ (rise_uniq ha2.2 hb2.2 fun z => ?_)
    constructor
    · intro hz
      rcases List.mem_cons.1 ((h z).1 (by simp [hz])) with e | h1
      · subst e; exact absurd (ha2.1 _ hz) (not_lt_self _)
      · exact h1
    · intro hz
      rcases List.mem_cons.1 ((h z).2 (by simp [hz])) with e | h1
      · subst e; exact absurd (hb2.1 _ hz) (not_lt_self _)
      · exact h1
/-- Put, when it may be. -/
structure PutOk (l : List FV) (f : FV) : Prop where
  tree : treeOk l = true
  path : pathOk f.p = true
  text : f.text.size ≤ 20000
  clash : clashF l f.path = false
  room : hasP l f.path = true ∨ l.length < 100
theorem clash_old {l : List FV} (h : treeOk l = true) {p : ByteArray} (hp : hasP l p = true) : clashF l p = false := by
  obtain ⟨g, hg, e⟩ := hasP_iff.1 hp
  obtain ⟨_, _, h3, h4⟩ := treeOk_iff.1 h
  cases hc : clashF l p with
  | false => rfl
  | true =>
    simp only [clashF, List.any_eq_true, Bool.and_eq_true] at hc
    obtain ⟨x, hx, h1, h2⟩ := hc
    have hne : ¬ x.path = p := by simpa using h1
    have e2 : p.data.toList = g.p := by rw [← e]; rfl
    rw [e2] at h2
    simp only [clashP, h4 x hx g hg, h4 g hg x hx, Bool.or_false, decide_eq_true_eq] at h2
    exact absurd ((FV.p_inj.1 h2).trans e) hne
theorem putF_ok {l : List FV} {f : FV} (h : PutOk l f) : putF l f = (sortedIn (without l f.path) f, 0) := by
  have h1 : ¬ treeOk l = false := by rw [h.tree]; decide
  have h2 : ¬ pathOk f.p = false := by rw [h.path]; decide
  have h3 : ¬ 20000 < f.text.size := Nat.not_lt.2 h.text
  rw [putF, if_neg h1, if_neg h2, if_neg h3]
  by_cases e : hasP l f.path = true
  · rw [if_pos e]
  · have e2 : hasP l f.path = false := by simpa using e
    have h5 : ¬ 100 ≤ l.length := by rcases h.room with h | h; exact absurd h e; omega
    have h4 : ¬ clashF l f.path = true := by rw [h.clash]; decide
    rw [if_neg e, if_neg h4, if_neg h5, without_none e2]
theorem putF_no {l : List FV} {f : FV} (h : ¬ PutOk l f) : (putF l f).2 ≠ 0 ∧ (putF l f).1 = [] := by
  unfold putF
  split
  · exact ⟨by decide, rfl⟩
  · split
    · exact ⟨by decide, rfl⟩
    · split
      · exact ⟨by decide, rfl⟩
      · rename_i a b c
        have a' : treeOk l = true := by simpa using a
        have b' : pathOk f.p = true := by simpa using b
        have c' : f.text.size ≤ 20000 := by omega
        split
        · rename_i d
          exact absurd ⟨a', b', c', clash_old a' d, .inl d⟩ h
        · split
          · exact ⟨by decide, rfl⟩
          · split
            · exact ⟨by decide, rfl⟩
            · rename_i d e g
              exact absurd ⟨a', b', c', by simpa using e, .inr (by omega)⟩ h
theorem PutOk.tree_put {l : List FV} {f : FV} (h : PutOk l f) : treeOk (sortedIn (without l f.path) f) = true := by
  obtain ⟨h1, h2, h3, h4⟩ := treeOk_iff.1 h.tree
  have hc : ∀ g ∈ without l f.path, clashP g.p f.p = false := fun g hg => by
    obtain ⟨h5, h6⟩ := without_mem.1 hg
    have h7 := List.any_eq_false.1 h.clash g h5
    have h8 : clashP g.p f.path.data.toList = false := by simpa [h6] using h7
    exact h8
  refine treeOk_iff.2 ⟨?_, fun g hg => ?_, sortedIn_rise (without_rise h3 _) (hasP_without l f.path), fun a ha b hb => ?_⟩
  · rw [sortedIn_len]
    rcases h.room with hp | hp
    · obtain ⟨g, hg, e⟩ := hasP_iff.1 hp
      have : (without l f.path).length < l.length := List.length_filter_lt_length_iff_exists.2 ⟨g, hg, by simp [e]⟩
      omega
    · have := without_len l f.path
      omega
  · rcases sortedIn_mem.1 hg with rfl | hg
    · exact ⟨h.path, h.text⟩
    · exact h2 g (without_mem.1 hg).1
  · rcases sortedIn_mem.1 ha with rfl | ha
    · rcases sortedIn_mem.1 hb with rfl | hb
      · exact within_self _
      · have := hc b hb
        simp only [clashP, Bool.or_eq_false_iff] at this
        exact this.2
    · rcases sortedIn_mem.1 hb with rfl | hb
      · have := hc a ha
        simp only [clashP, Bool.or_eq_false_iff] at this
        exact this.1.2
      · exact h4 a (without_mem.1 ha).1 b (without_mem.1 hb).1
/-- What the law of putting asks. -/
theorem PutOk.again {l : List FV} {f : FV} (h : PutOk l f) : putF (sortedIn (without l f.path) f) f = (sortedIn (without l f.path) f, 0) := by
  have ht := h.tree_put
  have hm : f ∈ sortedIn (without l f.path) f := sortedIn_mem.2 (.inl rfl)
  have hp : hasP (sortedIn (without l f.path) f) f.path = true := hasP_iff.2 ⟨f, hm, rfl⟩
  rw [putF_ok ⟨ht, h.path, h.text, clash_old ht hp, .inl hp⟩]
  have hr := (treeOk_iff.1 ht).2.2.1
  refine Prod.ext ?_ rfl
  refine rise_uniq (sortedIn_rise (without_rise hr _) (hasP_without _ _)).pair hr.pair fun x => ?_
  simp only [sortedIn_mem, without_mem]
  constructor
  · rintro (h | ⟨h, _⟩)
    · exact .inl h
    · exact h
  · rintro (h | ⟨h1, h2⟩)
    · exact .inl h
    · exact .inr ⟨.inr ⟨h1, h2⟩, h2⟩
theorem PutOk.found {l : List FV} {f : FV} (h : PutOk l f) : findP (sortedIn (without l f.path) f) f.path = some f :=
  (findP_iff (treeOk_iff.1 h.tree_put).2.2.1).2 ⟨sortedIn_mem.2 (.inl rfl), rfl⟩
theorem PutOk.other {l : List FV} {f : FV} (h : PutOk l f) {p : ByteArray} (hp : p ≠ f.path) : findP l p = findP (sortedIn (without l f.path) f) p := by
  refine findP_ext (treeOk_iff.1 h.tree).2.2.1 (treeOk_iff.1 h.tree_put).2.2.1 fun g hg => ?_
  rw [sortedIn_mem, without_mem]
  constructor
  · exact fun h => .inr ⟨h, by rw [hg]; exact hp⟩
  · rintro (rfl | h)
    · exact absurd hg.symm hp
    · exact h.1
theorem dropF_ok {l : List FV} {p : ByteArray} (h : treeOk l = true) (hp : hasP l p = true) : dropF l p = (without l p, 0) := by
  simp [dropF, h, hp]

/-! ### a tree of raw files -/
noncomputable def playStep (out : List FV) (f : FV) : List FV := if 2000 < f.text.size then out else if (putF out f).2 = 0 then (putF out f).1 else out
noncomputable def playF (l : List FV) : List FV := (l.take 30).foldl playStep []
theorem playStep_ok {out : List FV} (h : treeOk out = true) (f : FV) : treeOk (playStep out f) = true ∧ (playStep out f).length ≤ out.length + 1 := by
  unfold playStep
  split
  · exact ⟨h, by omega⟩
  · split
    · rename_i h2
      by_cases hk : PutOk out f
      · refine ⟨?_, putF_len out f⟩
        rw [putF_ok hk]; exact hk.tree_put
      · exact absurd h2 (putF_no hk).1
    · exact ⟨h, by omega⟩
theorem playFold_ok : ∀ (l : List FV) {out : List FV}, treeOk out = true → treeOk (l.foldl playStep out) = true ∧ (l.foldl playStep out).length ≤ out.length + l.length
  | [], _, h => ⟨h, by simp⟩
  | f :: l, out, h => by
    obtain ⟨h1, h2⟩ := playStep_ok h f
    obtain ⟨h3, h4⟩ := playFold_ok l h1
    refine ⟨h3, ?_⟩
    rw [List.foldl_cons, List.length_cons]; omega
theorem playF_ok (l : List FV) : treeOk (playF l) = true := (playFold_ok _ treeOk_nil).1
theorem playF_len (l : List FV) : (playF l).length ≤ 30 := by
  have h1 := (playFold_ok (l.take 30) treeOk_nil).2
  have h2 := List.length_take_le 30 l
  simp only [List.length_nil] at h1
  unfold playF
  omega
end Go.Proofs.YtahlfafcjjkliaaGreatDoor
