/- Plain laws: the changes from one tree to another one, applied with deletions first, are that one. -/
import Derived.Test.YtahlfafcjjkliaaGreatDoorM5
namespace Go.Proofs.YtahlfafcjjkliaaGreatDoor

def firstF (c : List ChV) : List ChV := c.filter (·.del) ++ c.filter (fun x => !x.del)
def delC (p : ByteArray) : ChV := ⟨p, true, false, ⟨#[]⟩⟩
def putC (y : FV) : ChV := ⟨y.path, false, y.exec, y.text⟩
theorem applyOne_del {l : List FV} {p : ByteArray} (h : treeOk l = true) (hp : hasP l p = true) : applyOne l (delC p) = (without l p, 0) := by
  rw [applyOne, if_pos (show (delC p).del = true from rfl)]; exact dropF_ok h hp
theorem applyOne_put {l : List FV} {y : FV} (h : PutOk l y) : applyOne l (putC y) = (sortedIn (without l y.path) y, 0) := by
  rw [applyOne, if_neg (show ¬ (putC y).del = true from Bool.false_ne_true)]; exact putF_ok h
/-- Deletions. -/
theorem go_dels : ∀ (ps : List ByteArray) {cur : List FV} (rest : List ChV), treeOk cur = true → ps.Nodup → (∀ p ∈ ps, hasP cur p = true) →
    ∃ cur' : List FV, treeOk cur' = true ∧ (∀ g, g ∈ cur' ↔ g ∈ cur ∧ g.path ∉ ps) ∧ cur'.length ≤ cur.length ∧ applyGo cur (ps.map delC ++ rest) = applyGo cur' rest
  | [], cur, rest, h, _, _ => ⟨cur, h, by simp, Nat.le_refl _, rfl⟩
  | p :: ps, cur, rest, h, hn, hp => by
    obtain ⟨hn1, hn2⟩ := List.nodup_cons.1 hn
    obtain ⟨cur', h1, h2, h3, h4⟩ := go_dels ps (cur := without cur p) rest (treeOk_without h p) hn2 (fun q hq => by
      obtain ⟨g, hg, e⟩ := hasP_iff.1 (hp q (List.mem_cons_of_mem _ hq))
      refine hasP_iff.2 ⟨g, without_mem.2 ⟨hg, fun e2 => ?_⟩, e⟩
      rw [← e2, e] at hn1; exact hn1 hq)
    refine ⟨cur', h1, fun g => ?_, Nat.le_trans h3 (without_len cur p), ?_⟩
    · rw [h2, without_mem, List.mem_cons]
      constructor
      · rintro ⟨⟨a, b⟩, c⟩; exact ⟨a, fun d => by rcases d with d | d; exact b d; exact c d⟩
      · rintro ⟨a, b⟩; exact ⟨⟨a, fun d => b (.inl d)⟩, fun d => b (.inr d)⟩
    · rw [List.map_cons, List.cons_append, applyGo, applyOne_del h (hp p (by simp)), if_pos rfl]
      exact h4
/-- What is put beside files that do not clash. -/
theorem go_puts : ∀ (ys : List FV) {cur : List FV}, treeOk cur = true → (ys.Pairwise fun x y => x.path ≠ y.path) → (∀ y ∈ ys, FileOk y) →
    (∀ y ∈ ys, ∀ g, (g ∈ cur ∨ g ∈ ys) → within g.p y.p = false ∧ within y.p g.p = false) → cur.length + ys.length ≤ 100 →
    ∃ cur' : List FV, treeOk cur' = true ∧ (∀ g, g ∈ cur' ↔ g ∈ ys ∨ (g ∈ cur ∧ ∀ y ∈ ys, g.path ≠ y.path)) ∧ applyGo cur (ys.map putC) = (cur', 0) ∧ ((∀ y ∈ ys, hasP cur y.path = false) → cur'.length = cur.length + ys.length)
  | [], cur, h, _, _, _, _ => ⟨cur, h, by simp, rfl, fun _ => rfl⟩
  | y :: ys, cur, h, hn, hf, hc, hl => by
    obtain ⟨hn1, hn2⟩ := List.pairwise_cons.1 hn
    have hclash : clashF cur y.path = false := by
      cases e : clashF cur y.path with
      | false => rfl
      | true =>
        simp only [clashF, List.any_eq_true, Bool.and_eq_true] at e
        obtain ⟨g, hg, e1, e2⟩ := e
        have hne : ¬ g.path = y.path := by simpa using e1
        have hw := hc y (by simp) g (.inl hg)
        have e3 : clashP g.p y.p = true := e2
        simp only [clashP, hw.1, hw.2, Bool.or_false, decide_eq_true_eq] at e3
        exact absurd (FV.p_inj.1 e3) hne
    rw [List.length_cons] at hl
    have hk : PutOk cur y := ⟨h, (hf y (by simp)).1, (hf y (by simp)).2, hclash, by
      by_cases e : hasP cur y.path = true
      · exact .inl e
      · exact .inr (by omega)⟩
    have hmem : ∀ g, g ∈ sortedIn (without cur y.path) y ↔ g = y ∨ (g ∈ cur ∧ g.path ≠ y.path) := fun g => by rw [sortedIn_mem, without_mem]
    have hlen := sortedIn_len (without cur y.path) y
    have hlw := without_len cur y.path
    obtain ⟨cur', h1, h2, h3, h4⟩ := go_puts ys (cur := sortedIn (without cur y.path) y) hk.tree_put hn2 (fun z hz => hf z (List.mem_cons_of_mem _ hz)) (fun z hz g hg => by
      refine hc z (List.mem_cons_of_mem _ hz) g ?_
      rcases hg with hg | hg
      · rcases (hmem g).1 hg with rfl | hg
        · exact .inr (by simp)
        · exact .inl hg.1
      · exact .inr (List.mem_cons_of_mem _ hg)) (by omega)
    refine ⟨cur', h1, fun g => ?_, ?_, fun hno => ?_⟩
    · rw [h2, hmem]
      constructor
      · rintro (a | ⟨rfl | ⟨a, b⟩, c⟩)
        · exact .inl (List.mem_cons_of_mem _ a)
        · exact .inl (by simp)
        · refine .inr ⟨a, fun z hz => ?_⟩
          rcases List.mem_cons.1 hz with rfl | hz
          · exact b
          · exact c z hz
      · rintro (a | ⟨a, b⟩)
        · rcases List.mem_cons.1 a with rfl | a
          · exact .inr ⟨.inl rfl, fun z hz => hn1 z hz⟩
          · exact .inl a
        · exact .inr ⟨.inr ⟨a, b y (by simp)⟩, fun z hz => b z (List.mem_cons_of_mem _ hz)⟩
    · rw [List.map_cons, applyGo, applyOne_put hk, if_pos rfl]; exact h3
    · have hy := hno y (by simp)
      rw [h4 (fun z hz => ?_), hlen, without_none hy, List.length_cons]
      · omega
      · cases e : hasP (sortedIn (without cur y.path) y) z.path with
        | false => rfl
        | true =>
          obtain ⟨g, hg, e2⟩ := hasP_iff.1 e
          rcases (hmem g).1 hg with rfl | hg
          · exact absurd e2 (hn1 z hz)
          · exact absurd e2 (hasP_mem (hno z (List.mem_cons_of_mem _ hz)) hg.1)

/-! ### the changes from tree to tree -/
def newAt (a b : List FV) (p : ByteArray) : Option FV :=
  match findP b p with
  | none => none
  | some y => if findP a p = some y then none else some y
theorem chg_dels (a b : List FV) (ns : List ByteArray) : (ns.flatMap (chgAt a b)).filter (·.del) = (ns.filter (fun p => (findP b p).isNone)).map delC := by
  induction ns with
  | nil => rfl
  | cons p ns ih =>
    rw [List.flatMap_cons, List.filter_append, ih, List.filter_cons]
    cases h : findP b p with
    | none => simp [chgAt, h, delC]
    | some y =>
      by_cases e : findP a p = some y
      · simp [chgAt, h, e]
      · simp [chgAt, h, e]
theorem chg_puts (a b : List FV) (ns : List ByteArray) : (ns.flatMap (chgAt a b)).filter (fun x => !x.del) = (ns.filterMap (newAt a b)).map putC := by
  induction ns with
  | nil => rfl
  | cons p ns ih =>
    rw [List.flatMap_cons, List.filter_append, ih, List.filterMap_cons]
    cases h : findP b p with
    | none => simp [chgAt, h, newAt]
    | some y =>
      have hp := (findP_some h).2
      by_cases e : findP a p = some y
      · simp [chgAt, h, e, newAt]
      · simp [chgAt, h, e, newAt, putC, hp]
theorem newAt_some {a b : List FV} {p : ByteArray} {y : FV} : newAt a b p = some y ↔ findP b p = some y ∧ findP a p ≠ some y := by
  unfold newAt
  cases h : findP b p with
  | none => simp
  | some z =>
    simp only
    split
    · rename_i e
      constructor
      · intro h; cases h
      · rintro ⟨e1, e2⟩; injection e1 with e1; subst e1; exact absurd e e2
    · rename_i e
      constructor
      · intro h; injection h with h; subst h; exact ⟨rfl, e⟩
      · rintro ⟨e1, _⟩; exact e1
theorem up_nodup {ns : List ByteArray} (h : UpP ns) : ns.Nodup := h.imp fun hab e => by subst e; exact not_lt_self _ hab
theorem first_changes {a b : List FV} (ha : treeOk a = true) (hb : treeOk b = true) (hla : a.length ≤ 30) (hlb : b.length ≤ 30) : applyF a (firstF (changesF a b)) = (b, 0) := by
  have hra := (treeOk_iff.1 ha).2.2.1
  have hrb := (treeOk_iff.1 hb).2.2.1
  have hN := namesOf_len (a ++ b)
  rw [List.length_append] at hN
  have hnd := up_nodup (namesOf_up (a ++ b))
  have hlen : (firstF (changesF a b)).length ≤ 60 := by
    have h1 : (firstF (changesF a b)).length ≤ ((namesOf (a ++ b)).filter (fun p => (findP b p).isNone)).length + ((namesOf (a ++ b)).filterMap (newAt a b)).length := by
      rw [firstF, changesF, chg_dels, chg_puts]; simp
    have h2 : ∀ ns : List ByteArray, (ns.filter (fun p => (findP b p).isNone)).length + (ns.filterMap (newAt a b)).length ≤ ns.length := by
      intro ns
      induction ns with
      | nil => simp
      | cons p ns ih =>
        rw [List.filter_cons, List.filterMap_cons]
        cases h : findP b p with
        | none => simp [newAt, h]; omega
        | some y =>
          by_cases e : findP a p = some y
          · simp [newAt, h, e]; omega
          · simp [newAt, h, e]; omega
    have := h2 (namesOf (a ++ b))
    omega
  rw [applyF, if_neg (by rw [ha]; decide), if_neg (by omega), firstF, changesF, chg_dels, chg_puts]
  obtain ⟨cur, h1, h2, h3, h4⟩ := go_dels ((namesOf (a ++ b)).filter (fun p => (findP b p).isNone)) (cur := a) (((namesOf (a ++ b)).filterMap (newAt a b)).map putC) ha (hnd.sublist List.filter_sublist) (fun p hp => by
    obtain ⟨hp1, hp2⟩ := List.mem_filter.1 hp
    obtain ⟨f, hf, e⟩ := namesOf_mem.1 hp1
    rcases List.mem_append.1 hf with hf | hf
    · exact hasP_iff.2 ⟨f, hf, e⟩
    · have h5 : findP b p = none := by simpa using hp2
      exact absurd e (hasP_mem (findP_none.1 h5) hf))
  rw [h4]
  have hys : ∀ y ∈ (namesOf (a ++ b)).filterMap (newAt a b), y ∈ b ∧ findP a y.path ≠ some y := fun y hy => by
    obtain ⟨p, _, e⟩ := List.mem_filterMap.1 hy
    obtain ⟨e1, e2⟩ := newAt_some.1 e
    obtain ⟨e3, e4⟩ := findP_some e1
    rw [← e4] at e2
    exact ⟨e3, e2⟩
  have hcb : ∀ g ∈ cur, ∃ h ∈ b, h.path = g.path := fun g hg => by
    obtain ⟨hg1, hg2⟩ := (h2 g).1 hg
    have hgn : g.path ∈ namesOf (a ++ b) := namesOf_mem.2 ⟨g, List.mem_append.2 (.inl hg1), rfl⟩
    cases e : findP b g.path with
    | none => exact absurd (List.mem_filter.2 ⟨hgn, by rw [e]; rfl⟩) hg2
    | some h => exact ⟨h, (findP_some e).1, (findP_some e).2⟩
  obtain ⟨_, hbf, _, hbw⟩ := treeOk_iff.1 hb
  have hylen : ((namesOf (a ++ b)).filterMap (newAt a b)).length ≤ (namesOf (a ++ b)).length := List.length_filterMap_le _ _
  obtain ⟨cur', k1, k2, k3, _⟩ := go_puts ((namesOf (a ++ b)).filterMap (newAt a b)) h1 (by
    rw [List.pairwise_filterMap]
    refine hnd.imp fun {x y} hxy u hu v hv e => hxy ?_
    rw [← (findP_some (newAt_some.1 hu).1).2, ← (findP_some (newAt_some.1 hv).1).2, e]) (fun y hy => hbf y (hys y hy).1) (fun y hy g hg => by
    obtain ⟨h, hh, e⟩ : ∃ h ∈ b, h.path = g.path := by
      rcases hg with hg | hg
      · exact hcb g hg
      · exact ⟨g, (hys g hg).1, rfl⟩
    rw [show g.p = h.p from (FV.p_inj.2 e).symm]
    exact ⟨hbw h hh y (hys y hy).1, hbw y (hys y hy).1 h hh⟩) (by omega)
  rw [k3]
  refine Prod.ext ?_ rfl
  refine rise_uniq (treeOk_iff.1 k1).2.2.1.pair hrb.pair fun g => ?_
  rw [k2]
  constructor
  · rintro (hy | ⟨hg, hne⟩)
    · exact (hys g hy).1
    · obtain ⟨h, hh, e⟩ := hcb g hg
      have hga := ((h2 g).1 hg).1
      have hfb : findP b h.path = some h := (findP_iff hrb).2 ⟨hh, rfl⟩
      by_cases e2 : findP a h.path = some h
      · have e3 : findP a g.path = some g := (findP_iff hra).2 ⟨hga, rfl⟩
        rw [e, e3] at e2
        injection e2 with e2
        rw [e2]; exact hh
      · have hn : h.path ∈ namesOf (a ++ b) := namesOf_mem.2 ⟨h, List.mem_append.2 (.inr hh), rfl⟩
        exact absurd e.symm (hne h (List.mem_filterMap.2 ⟨h.path, hn, newAt_some.2 ⟨hfb, e2⟩⟩))
  · intro hg
    have hfb : findP b g.path = some g := (findP_iff hrb).2 ⟨hg, rfl⟩
    have hn : g.path ∈ namesOf (a ++ b) := namesOf_mem.2 ⟨g, List.mem_append.2 (.inr hg), rfl⟩
    by_cases e2 : findP a g.path = some g
    · refine .inr ⟨(h2 g).2 ⟨(findP_some e2).1, fun hm => ?_⟩, fun y hy e3 => ?_⟩
      · have := (List.mem_filter.1 hm).2
        rw [hfb] at this; cases this
      · obtain ⟨h5, h6⟩ := hys y hy
        have : g = y := rise_inj hrb hg h5 e3
        subst this
        exact h6 e2
    · exact .inl (List.mem_filterMap.2 ⟨g.path, hn, newAt_some.2 ⟨hfb, e2⟩⟩)
theorem changes_self (a : List FV) : changesF a a = [] := by
  rw [changesF, List.flatMap_eq_nil_iff]
  intro p hp
  obtain ⟨f, hf, e⟩ := namesOf_mem.1 hp
  have hfa : f ∈ a := by rcases List.mem_append.1 hf with h | h <;> exact h
  cases h : findP a p with
  | none => exact absurd e (hasP_mem (findP_none.1 h) hfa)
  | some y => simp [chgAt, h]
theorem changes_len (a b : List FV) : (changesF a b).length = (changesF b a).length := by
  have hN : namesOf (a ++ b) = namesOf (b ++ a) := up_uniq (namesOf_up _) (namesOf_up _) fun x => by
    simp only [namesOf_mem, List.mem_append, or_comm]
  rw [changesF, changesF, ← hN, List.length_flatMap, List.length_flatMap]
  refine congrArg _ (List.map_congr_left fun p hp => ?_)
  obtain ⟨f, hf, e⟩ := namesOf_mem.1 hp
  unfold chgAt
  cases h1 : findP a p with
  | none =>
    cases h2 : findP b p with
    | none =>
      rcases List.mem_append.1 hf with h | h
      · exact absurd e (hasP_mem (findP_none.1 h1) h)
      · exact absurd e (hasP_mem (findP_none.1 h2) h)
    | some y => simp
  | some x =>
    cases h2 : findP b p with
    | none => simp
    | some y =>
      by_cases e2 : x = y
      · simp [e2]
      · have e3 : ¬ y = x := fun e => e2 e.symm
        simp [e2, e3]
end Go.Proofs.YtahlfafcjjkliaaGreatDoor
