/- Texts of the walks, together: Plain laws: the pieces of three texts make the texts; where one side is as base, the whole is the other one; where both are alike, that. Plain laws: a text merged with one that is as base is the other one; two alike are that; exchanged. Plain laws: texts exchanged; pairs of files that moved. Plain law: where one side has all as base has it, the whole is the other one, without a clash. Plain laws: the merge of trees as a row of puts; with the sides exchanged. -/
import Derived.Test.YtcemkikgaeghjaaGreatDoorG09
namespace Go.Proofs.YtcemkikgaeghjaaGreatDoor

theorem runF_at : ∀ (zs : List (Option Nat × Option Nat)) (p q k : Nat), k < runF zs p q → zs[k]? = some (some (p + k), some (q + k))
  | [], _, _, k, h => by simp [runF] at h
  | (none, _) :: zs, p, q, k, h => by simp [runF] at h
  | (some x, none) :: zs, p, q, k, h => by simp [runF] at h
  | (some x, some y) :: zs, p, q, k, h => by
    rw [runF] at h
    split at h
    · rename_i e
      obtain ⟨rfl, rfl⟩ := e
      cases k with
      | zero => rfl
      | succ k =>
        rw [List.getElem?_cons_succ, runF_at zs (x + 1) (y + 1) k (by omega)]
        rw [show x + 1 + k = x + (k + 1) by omega, show y + 1 + k = y + (k + 1) by omega]
    · omega
structure Both (base ours theirs : List ByteArray) (zs : List (Option Nat × Option Nat)) : Prop where
  len : zs.length = base.length
  at_ : ∀ (i x y : Nat), zs[i]? = some (some x, some y) → x < ours.length ∧ ours[x]? = base[i]? ∧ y < theirs.length ∧ theirs[y]? = base[i]?
  up : ∀ (i i' x x' y y' : Nat), i < i' → zs[i]? = some (some x, some y) → zs[i']? = some (some x', some y') → x < x' ∧ y < y'
theorem zip_at {α β : Type} {xs : List α} {ys : List β} {i : Nat} {x : α} {y : β} (h : (xs.zip ys)[i]? = some (x, y)) : xs[i]? = some x ∧ ys[i]? = some y := by
  rw [List.getElem?_zip_eq_some] at h; exact h
theorem both_ok (base ours theirs : List ByteArray) : Both base ours theirs ((placeF base ours).zip (placeF base theirs)) := by
  have p := places_ok base ours
  have q := places_ok base theirs
  refine ⟨by rw [List.length_zip, p.len, q.len, Nat.min_self], fun i x y h => ?_, fun i i' x x' y y' hi h h' => ?_⟩
  · obtain ⟨h1, h2⟩ := zip_at h
    obtain ⟨a, b⟩ := p.at_ i x h1
    obtain ⟨c, d⟩ := q.at_ i y h2
    exact ⟨a, b, c, d⟩
  · obtain ⟨h1, h2⟩ := zip_at h
    obtain ⟨h3, h4⟩ := zip_at h'
    exact ⟨p.up i i' x x' hi h1 h3, q.up i i' y y' hi h2 h4⟩
theorem sliceF_drop {l : List ByteArray} {i k : Nat} (h : i ≤ k) (hk : k ≤ l.length) : l.drop i = sliceF l i k ++ l.drop k := by
  have h1 : (l.take k ++ l.drop k).drop i = (l.take k).drop i ++ l.drop k := by
    rw [List.drop_append_of_le_length (by rw [List.length_take]; omega)]
  rw [List.take_append_drop] at h1
  exact h1
theorem sliceF_eq {l m : List ByteArray} {i x n : Nat} (h : ∀ k, k < n → m[x + k]? = l[i + k]?) (hl : i + n ≤ l.length) (hm : x + n ≤ m.length) : sliceF m x (x + n) = sliceF l i (i + n) := by
  unfold sliceF
  refine List.ext_getElem? fun k => ?_
  rw [List.getElem?_drop, List.getElem?_drop]
  by_cases hk : k < n
  · rw [List.getElem?_take_of_lt (by omega), List.getElem?_take_of_lt (by omega)]; exact h k hk
  · rw [List.getElem?_eq_none (by rw [List.length_take]; omega), List.getElem?_eq_none (by rw [List.length_take]; omega)]
inductive Pieces (base ours theirs : List ByteArray) (zs : List (Option Nat × Option Nat)) : Nat → Nat → Nat → List KV → Prop
  | last {b o t : Nat} (hb : b ≤ base.length) (ho : o ≤ ours.length) (ht : t ≤ theirs.length) : Pieces base ours theirs zs b o t (betweenF (base.drop b) (ours.drop o) (theirs.drop t))
  | more {b o t i x y n : Nat} {l : List KV} (hz : ∀ k, k < n → zs[i + k]? = some (some (x + k), some (y + k))) (hn : 0 < n) (hb : b ≤ i) (ho : o ≤ x) (ht : t ≤ y) (hi : i + n ≤ base.length) (hx : x + n ≤ ours.length) (hy : y + n ≤ theirs.length)
      (he : sliceF ours x (x + n) = sliceF base i (i + n)) (hf : sliceF theirs y (y + n) = sliceF base i (i + n)) (h : Pieces base ours theirs zs (i + n) (x + n) (y + n) l) :
      Pieces base ours theirs zs b o t (betweenF (sliceF base b i) (sliceF ours o x) (sliceF theirs t y) ++ ⟨1, sliceF base i (i + n), sliceF base i (i + n), sliceF base i (i + n)⟩ :: l)
theorem goF_pieces {base ours theirs : List ByteArray} {zs : List (Option Nat × Option Nat)} (Z : Both base ours theirs zs) :
    ∀ (fuel i b o t : Nat), base.length ≤ i + fuel → b ≤ i → b ≤ base.length → o ≤ ours.length → t ≤ theirs.length → (∀ i' x y, i ≤ i' → zs[i']? = some (some x, some y) → o ≤ x ∧ t ≤ y) → Pieces base ours theirs zs b o t (goF base ours theirs zs fuel i b o t)
  | 0, i, b, o, t, _, _, hb, ho, ht, _ => by rw [goF]; exact .last hb ho ht
  | fuel + 1, i, b, o, t, hf, hbi, hb, ho, ht, hge => by
    rw [goF]
    split
    · exact .last hb ho ht
    · rename_i x y hz
      have hrun := runF_at (zs.drop (i + 1)) (x + 1) (y + 1)
      generalize runF (zs.drop (i + 1)) (x + 1) (y + 1) = m at hrun
      have hz' : ∀ k, k < m + 1 → zs[i + k]? = some (some (x + k), some (y + k)) := fun k hk => by
        cases k with
        | zero => exact hz
        | succ k =>
          have := hrun k (by omega)
          rw [List.getElem?_drop] at this
          rw [show i + (k + 1) = i + 1 + k by omega, this, show x + 1 + k = x + (k + 1) by omega, show y + 1 + k = y + (k + 1) by omega]
      have hl := Z.at_ _ _ _ (hz' m (by omega))
      have hil : i + m < zs.length := (List.getElem?_eq_some_iff.1 (hz' m (by omega))).1
      rw [Z.len] at hil
      obtain ⟨g1, g2⟩ := hge i x y (Nat.le_refl _) hz
      refine .more hz' (by omega) hbi g1 g2 (by omega) (by omega) (by omega) ?_ ?_ (goF_pieces Z fuel (i + (m + 1)) (i + (m + 1)) (x + (m + 1)) (y + (m + 1)) (by omega) (Nat.le_refl _) (by omega) (by omega) (by omega) ?_)
      · exact sliceF_eq (fun k hk => (Z.at_ _ _ _ (hz' k hk)).2.1) (by omega) (by omega)
      · exact sliceF_eq (fun k hk => (Z.at_ _ _ _ (hz' k hk)).2.2.2) (by omega) (by omega)
      · intro i' x' y' hi' h'
        obtain ⟨u1, u2⟩ := Z.up (i + m) i' _ x' _ y' (by omega) (hz' m (by omega)) h'
        omega
    · rename_i hz
      exact goF_pieces Z fuel (i + 1) b o t (by omega) (by omega) hb ho ht (fun i' x y hi' h => hge i' x y (by omega) h)
theorem chunks_pieces (base ours theirs : List ByteArray) : Pieces base ours theirs ((placeF base ours).zip (placeF base theirs)) 0 0 0 (chunksF base ours theirs) :=
  goF_pieces (both_ok base ours theirs) _ _ _ _ _ (by omega) (Nat.le_refl _) (by omega) (by omega) (by omega) (fun _ _ _ _ _ => ⟨by omega, by omega⟩)
theorem between_sides (b o t : List ByteArray) : (betweenF b o t).flatMap KV.base = b ∧ (betweenF b o t).flatMap KV.ours = o ∧ (betweenF b o t).flatMap KV.theirs = t := by
  unfold betweenF
  split
  · have hb : b = [] := List.eq_nil_of_length_eq_zero (by omega)
    have ho : o = [] := List.eq_nil_of_length_eq_zero (by omega)
    have ht : t = [] := List.eq_nil_of_length_eq_zero (by omega)
    subst hb; subst ho; subst ht
    exact ⟨rfl, rfl, rfl⟩
  · exact ⟨by simp, by simp, by simp⟩
theorem Pieces.sides {base ours theirs : List ByteArray} {zs : List (Option Nat × Option Nat)} {b o t : Nat} {l : List KV} (h : Pieces base ours theirs zs b o t l) :
    l.flatMap KV.base = base.drop b ∧ l.flatMap KV.ours = ours.drop o ∧ l.flatMap KV.theirs = theirs.drop t := by
  induction h with
  | last hb ho ht => exact between_sides _ _ _
  | more hz hn hb ho ht hi hx hy he hf h ih =>
    obtain ⟨i1, i2, i3⟩ := ih
    obtain ⟨j1, j2, j3⟩ := between_sides (sliceF base _ _) (sliceF ours _ _) (sliceF theirs _ _)
    refine ⟨?_, ?_, ?_⟩
    · rw [List.flatMap_append, List.flatMap_cons, i1, j1]
      rw [sliceF_drop hb (by omega), sliceF_drop (Nat.le_add_right _ _) hi]
    · rw [List.flatMap_append, List.flatMap_cons, i2, j2]
      rw [sliceF_drop ho (by omega), sliceF_drop (Nat.le_add_right _ _) hx, he]
    · rw [List.flatMap_append, List.flatMap_cons, i3, j3]
      rw [sliceF_drop ht (by omega), sliceF_drop (Nat.le_add_right _ _) hy, hf]
def KindOk (c : KV) : Prop := (c.kind = 1 ∧ c.ours = c.base ∧ c.theirs = c.base) ∨ c.kind = kindF c.base c.ours c.theirs
theorem between_mem {b o t : List ByteArray} {c : KV} (h : c ∈ betweenF b o t) : c = ⟨kindF b o t, b, o, t⟩ := by
  unfold betweenF at h
  split at h
  · cases h
  · simpa using h
theorem Pieces.kinds {base ours theirs : List ByteArray} {zs : List (Option Nat × Option Nat)} {b o t : Nat} {l : List KV} (h : Pieces base ours theirs zs b o t l) : ∀ c ∈ l, KindOk c := by
  induction h with
  | last hb ho ht =>
    intro c hc
    rw [between_mem hc]; exact .inr rfl
  | more hz hn hb ho ht hi hx hy he hf h ih =>
    intro c hc
    rcases List.mem_append.1 hc with hc | hc
    · rw [between_mem hc]; exact .inr rfl
    · rcases List.mem_cons.1 hc with rfl | hc
      · exact .inl ⟨rfl, rfl, rfl⟩
      · exact ih c hc
theorem merged_sides {l : List KV} (hk : ∀ c ∈ l, KindOk c) :
    ((∀ c ∈ l, c.ours = c.base) → cleanF l = true ∧ mergedF l = l.flatMap KV.theirs) ∧ ((∀ c ∈ l, c.theirs = c.base) → cleanF l = true ∧ mergedF l = l.flatMap KV.ours) ∧
    ((∀ c ∈ l, c.ours = c.theirs) → cleanF l = true ∧ mergedF l = l.flatMap KV.ours) := by
  have one : ∀ {l : List KV} {f : KV → List ByteArray}, (∀ c ∈ l, c.kind ≠ 5 ∧ (if c.kind = 3 then c.theirs else c.ours) = f c) → cleanF l = true ∧ mergedF l = l.flatMap f := by
    intro l f
    induction l with
    | nil => intro _; exact ⟨rfl, rfl⟩
    | cons c l ih =>
      intro h
      obtain ⟨h1, h2⟩ := ih fun d hd => h d (List.mem_cons_of_mem _ hd)
      obtain ⟨h3, h4⟩ := h c (by simp)
      refine ⟨?_, ?_⟩
      · unfold cleanF at h1 ⊢
        rw [List.all_cons, h1, decide_eq_true h3]; rfl
      · unfold mergedF at h2 ⊢
        rw [List.flatMap_cons, List.flatMap_cons, h2, h4]
  refine ⟨fun h => one fun c hc => ?_, fun h => one fun c hc => ?_, fun h => one fun c hc => ?_⟩
  · rcases hk c hc with ⟨h1, h2, h3⟩ | h1
    · rw [h1]; exact ⟨by decide, by rw [if_neg (by decide), h2, h3]⟩
    · rw [kindF, if_pos (h c hc)] at h1
      rw [h1]; exact ⟨by decide, by rw [if_pos rfl]⟩
  · rcases hk c hc with ⟨h1, h2, h3⟩ | h1
    · rw [h1]; exact ⟨by decide, by rw [if_neg (by decide)]⟩
    · unfold kindF at h1
      split at h1
      · rename_i e
        rw [h1]; exact ⟨by decide, by rw [if_pos rfl, h c hc, e]⟩
      · rw [if_pos (h c hc)] at h1
        rw [h1]; exact ⟨by decide, by rw [if_neg (by decide)]⟩
  · rcases hk c hc with ⟨h1, h2, h3⟩ | h1
    · rw [h1]; exact ⟨by decide, by rw [if_neg (by decide)]⟩
    · unfold kindF at h1
      split at h1
      · rw [h1]; exact ⟨by decide, by rw [if_pos rfl]; exact (h c hc).symm⟩
      · split at h1
        · rw [h1]; exact ⟨by decide, by rw [if_neg (by decide)]⟩
        · rw [if_pos (h c hc)] at h1
          rw [h1]; exact ⟨by decide, by rw [if_neg (by decide)]⟩
end Go.Proofs.YtcemkikgaeghjaaGreatDoor
namespace Go.Proofs.YtcemkikgaeghjaaGreatDoor

theorem Pieces.as_ours {base theirs : List ByteArray} {zs : List (Option Nat × Option Nat)} (hs : ∀ (i x y : Nat), zs[i]? = some (some x, some y) → x = i) {ours : List ByteArray} (ho : ours = base) {b o t : Nat} {l : List KV}
    (h : Pieces base ours theirs zs b o t l) (e : o = b) : ∀ c ∈ l, c.ours = c.base := by
  induction h with
  | last hb _ ht =>
    intro c hc
    rw [between_mem hc]
    show ours.drop _ = base.drop _
    rw [e, ho]
  | @more b o t i x y n l hz hn hb _ ht hi hx hy he hf h ih =>
    have hxi : x = i := hs i x y (by simpa using hz 0 hn)
    intro c hc
    rcases List.mem_append.1 hc with hc | hc
    · rw [between_mem hc]
      show sliceF ours o x = sliceF base b i
      rw [e, ho, hxi]
    · rcases List.mem_cons.1 hc with rfl | hc
      · rfl
      · exact ih (by omega) c hc
theorem Pieces.as_theirs {base ours : List ByteArray} {zs : List (Option Nat × Option Nat)} (hs : ∀ (i x y : Nat), zs[i]? = some (some x, some y) → y = i) {theirs : List ByteArray} (ho : theirs = base) {b o t : Nat} {l : List KV}
    (h : Pieces base ours theirs zs b o t l) (e : t = b) : ∀ c ∈ l, c.theirs = c.base := by
  induction h with
  | last hb _ ht =>
    intro c hc
    rw [between_mem hc]
    show theirs.drop _ = base.drop _
    rw [e, ho]
  | @more b o t i x y n l hz hn hb _ ht hi hx hy he hf h ih =>
    have hxi : y = i := hs i x y (by simpa using hz 0 hn)
    intro c hc
    rcases List.mem_append.1 hc with hc | hc
    · rw [between_mem hc]
      show sliceF theirs t y = sliceF base b i
      rw [e, ho, hxi]
    · rcases List.mem_cons.1 hc with rfl | hc
      · rfl
      · exact ih (by omega) c hc
theorem Pieces.as_both {base ours : List ByteArray} {zs : List (Option Nat × Option Nat)} (hs : ∀ (i x y : Nat), zs[i]? = some (some x, some y) → x = y) {theirs : List ByteArray} (ho : theirs = ours) {b o t : Nat} {l : List KV}
    (h : Pieces base ours theirs zs b o t l) (e : o = t) : ∀ c ∈ l, c.ours = c.theirs := by
  induction h with
  | last hb _ ht =>
    intro c hc
    rw [between_mem hc]
    show ours.drop _ = theirs.drop _
    rw [e, ho]
  | @more b o t i x y n l hz hn hb _ ht hi hx hy he hf h ih =>
    have hxi : x = y := hs i x y (by simpa using hz 0 hn)
    intro c hc
    rcases List.mem_append.1 hc with hc | hc
    · rw [between_mem hc]
      show sliceF ours o x = sliceF theirs t y
      rw [e, ho, hxi]
    · rcases List.mem_cons.1 hc with rfl | hc
      · rfl
      · exact ih (by omega) c hc
theorem range_at {n i x : Nat} (h : ((List.range' 0 n).map some)[i]? = some (some x)) : x = i := by
  rw [List.getElem?_map] at h
  cases h1 : (List.range' 0 n)[i]? with
  | none => rw [h1] at h; cases h
  | some y =>
    rw [h1] at h
    have h2 := List.getElem?_eq_some_iff.1 h1
    obtain ⟨hi, h3⟩ := h2
    rw [List.getElem_range'] at h3
    simp at h
    omega
theorem chunks_sides (b o t : List ByteArray) : (chunksF b o t).flatMap KV.base = b ∧ (chunksF b o t).flatMap KV.ours = o ∧ (chunksF b o t).flatMap KV.theirs = t := by
  have := (chunks_pieces b o t).sides
  simpa using this
theorem merge3_ours (f t : ByteArray) : merge3F f f t = (t, true) := by
  have hp := chunks_pieces (linesF f) (linesF f) (linesF t)
  have h1 := hp.as_ours (fun i x y h => by
    have h2 := (zip_at h).1
    rw [place_self] at h2
    exact range_at h2) rfl rfl
  obtain ⟨h2, h3⟩ := (merged_sides hp.kinds).1 h1
  rw [merge3F]
  rw [if_pos h2, h3, (chunks_sides _ _ _).2.2, join_lines]
theorem merge3_theirs (f o : ByteArray) : merge3F f o f = (o, true) := by
  have hp := chunks_pieces (linesF f) (linesF o) (linesF f)
  have h1 := hp.as_theirs (fun i x y h => by
    have h2 := (zip_at h).2
    rw [place_self] at h2
    exact range_at h2) rfl rfl
  obtain ⟨h2, h3⟩ := (merged_sides hp.kinds).2.1 h1
  rw [merge3F]
  rw [if_pos h2, h3, (chunks_sides _ _ _).2.1, join_lines]
theorem merge3_both (f o : ByteArray) : merge3F f o o = (o, true) := by
  have hp := chunks_pieces (linesF f) (linesF o) (linesF o)
  have h1 := hp.as_both (fun i x y h => by
    obtain ⟨h2, h3⟩ := zip_at h
    rw [h2] at h3
    simpa using h3) rfl rfl
  obtain ⟨h2, h3⟩ := (merged_sides hp.kinds).2.2 h1
  rw [merge3F]
  rw [if_pos h2, h3, (chunks_sides _ _ _).2.1, join_lines]

/-! ### exchanged -/
def swapK (c : KV) : KV := ⟨if c.kind = 2 then 3 else if c.kind = 3 then (if c.theirs = c.base then 3 else 2) else c.kind, c.base, c.theirs, c.ours⟩
end Go.Proofs.YtcemkikgaeghjaaGreatDoor
namespace Go.Proofs.YtcemkikgaeghjaaGreatDoor

/-! ### pairs -/
theorem lone_mem {l other : List FV} {i : Nat} : i ∈ loneF l other ↔ ∃ f, l[i]? = some f ∧ findP other f.path = none ∧ f.text ≠ ⟨#[]⟩ := by
  rw [loneF, List.mem_filter, List.mem_range]
  constructor
  · rintro ⟨h, h2⟩
    rw [List.getElem?_eq_getElem h] at h2
    simp only [Bool.and_eq_true, Bool.not_eq_true', decide_eq_false_iff_not, Option.isNone_iff_eq_none] at h2
    exact ⟨_, List.getElem?_eq_getElem h, h2.1, h2.2⟩
  · rintro ⟨f, h1, h2, h3⟩
    refine ⟨(List.getElem?_eq_some_iff.1 h1).1, ?_⟩
    rw [h1]
    simp [h2, h3]
structure PairsOk (is js : List Nat) (ps : List (Nat × Nat)) : Prop where
  from_ : ∀ p ∈ ps, p.1 ∈ is
  into : ∀ p ∈ ps, p.2 ∈ js
  one : ps.Pairwise fun p q => p.1 ≠ q.1 ∧ p.2 ≠ q.2
theorem sameF_ok (base side : List FV) : ∀ (is js : List Nat), is.Nodup → PairsOk is js (sameF base side is js).1 ∧ (∀ i ∈ (sameF base side is js).2.1, i ∈ is) ∧ (∀ j ∈ (sameF base side is js).2.2, j ∈ js) ∧
    (∀ p ∈ (sameF base side is js).1, p.1 ∉ (sameF base side is js).2.1 ∧ p.2 ∉ (sameF base side is js).2.2) ∧ (sameF base side is js).2.1.Nodup
  | [], js, _ => by
    rw [sameF]
    exact ⟨⟨by simp, by simp, List.Pairwise.nil⟩, by simp, fun _ h => h, by simp, List.nodup_nil⟩
  | i :: is, js, hn => by
    obtain ⟨hn1, hn2⟩ := List.nodup_cons.1 hn
    rw [sameF]
    cases hf : js.find? fun j => decide (textAt side j = textAt base i) with
    | none =>
      obtain ⟨⟨a1, a2, a3⟩, b, c, d, e⟩ := sameF_ok base side is js hn2
      dsimp only
      refine ⟨⟨fun p hp => List.mem_cons_of_mem _ (a1 p hp), a2, a3⟩, fun k hk => ?_, c, fun p hp => ⟨fun h => ?_, (d p hp).2⟩, List.nodup_cons.2 ⟨fun h => hn1 (b i h), e⟩⟩
      · rcases List.mem_cons.1 hk with rfl | hk
        · simp
        · exact List.mem_cons_of_mem _ (b k hk)
      · rcases List.mem_cons.1 h with h | h
        · exact hn1 (by rw [← h]; exact a1 p hp)
        · exact (d p hp).1 h
    | some j =>
      have hj := List.mem_of_find?_eq_some hf
      obtain ⟨⟨a1, a2, a3⟩, b, c, d, e⟩ := sameF_ok base side is (js.filter fun k => decide (k ≠ j)) hn2
      have hne : ∀ k ∈ js.filter (fun k => decide (k ≠ j)), k ≠ j := fun k hk => by simpa using (List.mem_filter.1 hk).2
      dsimp only
      refine ⟨⟨fun p hp => ?_, fun p hp => ?_, List.pairwise_cons.2 ⟨fun p hp => ⟨fun h => hn1 (by rw [show i = p.1 from h]; exact a1 p hp), fun h => hne _ (a2 p hp) h.symm⟩, a3⟩⟩, fun k hk => List.mem_cons_of_mem _ (b k hk), fun k hk => (List.mem_filter.1 (c k hk)).1, fun p hp => ?_, e⟩
      · rcases List.mem_cons.1 hp with rfl | hp
        · simp
        · exact List.mem_cons_of_mem _ (a1 p hp)
      · rcases List.mem_cons.1 hp with rfl | hp
        · exact hj
        · exact (List.mem_filter.1 (a2 p hp)).1
      · rcases List.mem_cons.1 hp with rfl | hp
        · exact ⟨fun h => hn1 (b _ h), fun h => hne _ (c _ h) rfl⟩
        · exact d p hp
theorem best_mem {base side : List FV} {is js : List Nat} {p : Nat × Nat} (h : bestF base side is js = some p) : p.1 ∈ is ∧ p.2 ∈ js := by
  have key : ∀ (l : List (Nat × Nat)) (b : Option (Nat × Nat) × Int), (∀ q, b.1 = some q → q.1 ∈ is ∧ q.2 ∈ js) → (∀ q ∈ l, q.1 ∈ is ∧ q.2 ∈ js) →
      ∀ q, (l.foldl (fun (b : Option (Nat × Nat) × Int) p => let r := ratioF (textAt base p.1) (textAt side p.2); if b.2 < r then (some p, r) else b) b).1 = some q → q.1 ∈ is ∧ q.2 ∈ js := by
    intro l
    induction l with
    | nil => intro b hb _ q hq; exact hb q hq
    | cons x l ih =>
      intro b hb hl q hq
      rw [List.foldl_cons] at hq
      refine ih _ ?_ (fun q hq => hl q (List.mem_cons_of_mem _ hq)) q hq
      intro q hq
      dsimp only at hq
      split at hq
      · injection hq with hq; subst hq; exact hl x (by simp)
      · exact hb q hq
  refine key _ (none, 49) (fun q hq => by cases hq) (fun q hq => ?_) p h
  obtain ⟨i, hi, h1⟩ := List.mem_flatMap.1 hq
  obtain ⟨j, hj, rfl⟩ := List.mem_map.1 h1
  exact ⟨hi, hj⟩
theorem alikeF_ok (base side : List FV) : ∀ (n : Nat) (is js : List Nat), PairsOk is js (alikeF base side n is js)
  | 0, is, js => by rw [alikeF]; exact ⟨by simp, by simp, List.Pairwise.nil⟩
  | n + 1, is, js => by
    rw [alikeF]
    cases hb : bestF base side is js with
    | none => exact ⟨by simp, by simp, List.Pairwise.nil⟩
    | some p =>
      obtain ⟨h1, h2⟩ := best_mem hb
      obtain ⟨a1, a2, a3⟩ := alikeF_ok base side n (is.filter fun k => decide (k ≠ p.1)) (js.filter fun k => decide (k ≠ p.2))
      have e1 : ∀ q ∈ alikeF base side n (is.filter fun k => decide (k ≠ p.1)) (js.filter fun k => decide (k ≠ p.2)), q.1 ∈ is ∧ q.1 ≠ p.1 := fun q hq => by
        obtain ⟨h3, h4⟩ := List.mem_filter.1 (a1 q hq); exact ⟨h3, by simpa using h4⟩
      have e2 : ∀ q ∈ alikeF base side n (is.filter fun k => decide (k ≠ p.1)) (js.filter fun k => decide (k ≠ p.2)), q.2 ∈ js ∧ q.2 ≠ p.2 := fun q hq => by
        obtain ⟨h3, h4⟩ := List.mem_filter.1 (a2 q hq); exact ⟨h3, by simpa using h4⟩
      dsimp only
      refine ⟨fun q hq => ?_, fun q hq => ?_, List.pairwise_cons.2 ⟨fun q hq => ⟨fun h => (e1 q hq).2 h.symm, fun h => (e2 q hq).2 h.symm⟩, a3⟩⟩
      · rcases List.mem_cons.1 hq with rfl | hq
        · exact h1
        · exact (e1 q hq).1
      · rcases List.mem_cons.1 hq with rfl | hq
        · exact h2
        · exact (e2 q hq).1
theorem pairsF_ok (base side : List FV) : PairsOk (loneF base side) (loneF side base) (pairsF base side) := by
  have hn : (loneF base side).Nodup := List.nodup_range.sublist List.filter_sublist
  obtain ⟨⟨a1, a2, a3⟩, b, c, d, e⟩ := sameF_ok base side (loneF base side) (loneF side base) hn
  obtain ⟨f1, f2, f3⟩ := alikeF_ok base side (sameF base side (loneF base side) (loneF side base)).2.1.length (sameF base side (loneF base side) (loneF side base)).2.1 (sameF base side (loneF base side) (loneF side base)).2.2
  unfold pairsF
  dsimp only
  refine ⟨fun p hp => ?_, fun p hp => ?_, List.pairwise_append.2 ⟨a3, f3, fun p hp q hq => ⟨fun h => (d p hp).1 (by rw [h]; exact f1 q hq), fun h => (d p hp).2 (by rw [h]; exact f2 q hq)⟩⟩⟩
  · rcases List.mem_append.1 hp with hp | hp
    · exact a1 p hp
    · exact b _ (f1 p hp)
  · rcases List.mem_append.1 hp with hp | hp
    · exact a2 p hp
    · exact c _ (f2 p hp)
end Go.Proofs.YtcemkikgaeghjaaGreatDoor
namespace Go.Proofs.YtcemkikgaeghjaaGreatDoor

theorem pair_files {a b : List FV} {q : Nat × Nat} (h : q ∈ pairsF a b) : ∃ f g, a[q.1]? = some f ∧ b[q.2]? = some g ∧ findP b f.path = none ∧ findP a g.path = none := by
  have ok := pairsF_ok a b
  obtain ⟨f, h1, h2, _⟩ := lone_mem.1 (ok.from_ q h)
  obtain ⟨g, h3, h4, _⟩ := lone_mem.1 (ok.into q h)
  exact ⟨f, g, h1, h3, h2, h4⟩
theorem pair_one {α : Type} {R : α → α → Prop} : ∀ {l : List α}, l.Pairwise R → ∀ {x y : α}, x ∈ l → y ∈ l → x = y ∨ R x y ∨ R y x
  | z :: l, h, x, y, hx, hy => by
    obtain ⟨h1, h2⟩ := List.pairwise_cons.1 h
    rcases List.mem_cons.1 hx with e1 | hx2
    · rcases List.mem_cons.1 hy with e2 | hy2
      · exact .inl (e1.trans e2.symm)
      · exact .inr (.inl (e1 ▸ h1 y hy2))
    · rcases List.mem_cons.1 hy with e2 | hy2
      · exact .inr (.inr (e2 ▸ h1 x hx2))
      · exact pair_one h2 hx2 hy2
theorem added_mem {a b : List FV} {g : FV} : g ∈ addedF a b ↔ g ∈ b ∧ findP a g.path = none ∧ ∀ q ∈ pairsF a b, ((b[q.2]?).map FV.path) ≠ some g.path := by
  simp only [addedF, List.mem_filter, Bool.and_eq_true, Option.isNone_iff_eq_none, Bool.not_eq_true', List.any_eq_false, decide_eq_true_eq]
/-! ### put in order -/
theorem sortF_ok : ∀ (l : List FV), (l.Pairwise fun x y => x.path ≠ y.path) → Rise (sortF l) ∧ ∀ x, x ∈ sortF l ↔ x ∈ l := by
  have key : ∀ (l out : List FV), Rise out → ((out ++ l).Pairwise fun x y => x.path ≠ y.path) → Rise (l.foldl (fun out f => sortedIn out f) out) ∧ ∀ x, x ∈ l.foldl (fun out f => sortedIn out f) out ↔ x ∈ out ∨ x ∈ l := by
    intro l
    induction l with
    | nil => intro out h _; exact ⟨h, by simp⟩
    | cons f l ih =>
      intro out h hp
      have hn : hasP out f.path = false := by
        cases e : hasP out f.path with
        | false => rfl
        | true =>
          obtain ⟨g, hg, e2⟩ := hasP_iff.1 e
          exact absurd e2 ((List.pairwise_append.1 hp).2.2 g hg f (by simp))
      have hp2 : (sortedIn out f ++ l).Pairwise fun x y => x.path ≠ y.path := by
        obtain ⟨p1, p2, p3⟩ := List.pairwise_append.1 hp
        obtain ⟨p4, p5⟩ := List.pairwise_cons.1 p2
        refine List.pairwise_append.2 ⟨(sortedIn_rise h hn).pair.imp fun hab e => absurd (FV.p_inj.2 e) (ne_of_lt_bs hab), p5, fun x hx y hy => ?_⟩
        rcases sortedIn_mem.1 hx with rfl | hx
        · exact p4 y hy
        · exact p3 x hx y (List.mem_cons_of_mem _ hy)
      obtain ⟨h1, h2⟩ := ih (sortedIn out f) (sortedIn_rise h hn) hp2
      refine ⟨h1, fun x => ?_⟩
      rw [List.foldl_cons, h2, sortedIn_mem, List.mem_cons]
      constructor
      · rintro ((h | h) | h)
        · exact .inr (.inl h)
        · exact .inl h
        · exact .inr (.inr h)
      · rintro (h | h | h)
        · exact .inl (.inr h)
        · exact .inl (.inl h)
        · exact .inr h
  intro l h
  obtain ⟨h1, h2⟩ := key l [] (rise_of_pair List.Pairwise.nil) (by simpa using h)
  exact ⟨h1, fun x => by rw [sortF, h2]; simp⟩
end Go.Proofs.YtcemkikgaeghjaaGreatDoor
namespace Go.Proofs.YtcemkikgaeghjaaGreatDoor

def bothOut (f o t : FV) : FV × Int :=
  let kind : Int := if o.path = f.path then 0 else if t.path ≠ f.path ∧ t.path ≠ o.path then 4 else 0
  (⟨if o.path = f.path then t.path else o.path, if o.exec = f.exec then t.exec else o.exec, (merge3F f.text o.text t.text).1⟩, if (merge3F f.text o.text t.text).2 = false ∧ kind = 0 then 1 else kind)
def actK (base a b : List FV) (f : FV) : Option (FV × Int) :=
  match whereF base a f, whereF base b f with
  | some x, some y => some (bothOut f x y)
  | some x, none => if x = f then none else some (x, 3)
  | none, some y => if y = f then none else some (y, 3)
  | none, none => none
def actA (theirs : List FV) (x : FV) : FV × Int :=
  match findP theirs x.path with
  | none => (x, 0)
  | some y => if x = y then (x, 0) else (⟨x.path, x.exec, (merge3F ⟨#[]⟩ x.text y.text).1⟩, 2)
def acts (base a b : List FV) : List (FV × Int) :=
  base.filterMap (actK base a b) ++ ((addedF base a).map (actA (addedF base b)) ++ ((addedF base b).filter fun y => (findP (addedF base a) y.path).isNone).map fun y => (y, 0))
def putX (m : List FV × List CL) (p : FV × Int) : List FV × List CL := putM m p.1 p.2
theorem kept_acts (base a b : List FV) : ∀ (l : List FV) (m : List FV × List CL), l.foldl (keptM base a b) m = (l.filterMap (actK base a b)).foldl putX m
  | [], m => rfl
  | f :: l, m => by
    rw [List.foldl_cons, List.filterMap_cons]
    have h : keptM base a b m f = match actK base a b f with | some p => putX m p | none => m := by
      unfold keptM actK
      cases whereF base a f with
      | none =>
        cases whereF base b f with
        | none => rfl
        | some y => by_cases e : y = f <;> simp [e, putX]
      | some x =>
        cases whereF base b f with
        | none => by_cases e : x = f <;> simp [e, putX]
        | some y => rfl
    rw [h]
    cases actK base a b f with
    | none => exact kept_acts base a b l m
    | some p => exact kept_acts base a b l (putX m p)
theorem add_acts (ours theirs : List FV) (m : List FV × List CL) : addM ours theirs m = (ours.map (actA theirs) ++ (theirs.filter fun (y : FV) => (findP ours y.path).isNone).map fun y => (y, 0)).foldl putX m := by
  unfold addM
  rw [List.foldl_append, List.foldl_map, List.foldl_map]
  have h : addOne theirs = fun m x => putX m (actA theirs x) := by
    funext m x
    unfold addOne actA
    cases findP theirs x.path with
    | none => rfl
    | some y => by_cases e : x = y <;> simp [e, putX]
  rw [h]
  rfl
theorem whole_acts (base a b : List FV) : wholeF base a b = (acts base a b).foldl putX ([], []) := by
  unfold wholeF acts
  rw [add_acts, kept_acts, ← List.foldl_append]
theorem putX_some (m : List FV × List CL) (p : FV × Int) : m.2 ≠ [] → (putX m p).2 ≠ [] := by
  intro h
  unfold putX putM
  split
  · simp
  · dsimp only
    split
    · exact h
    · simp
theorem puts_some : ∀ (l : List (FV × Int)) (m : List FV × List CL), m.2 ≠ [] → (l.foldl putX m).2 ≠ []
  | [], _m, h => h
  | p :: l, m, h => puts_some l (putX m p) (putX_some m p h)
theorem puts_clean : ∀ (l : List (FV × Int)) (m : List FV × List CL), m.2 = [] →
    (((l.foldl putX m).2 = [] ↔ (∀ p ∈ l, p.2 = 0) ∧ (∀ x ∈ m.1, ∀ p ∈ l, clashP x.p p.1.p = false) ∧ l.Pairwise fun p q => clashP p.1.p q.1.p = false) ∧ ((l.foldl putX m).2 = [] → (l.foldl putX m).1 = m.1 ++ l.map Prod.fst))
  | [], m, h => by simp [h]
  | p :: l, m, h => by
    rw [List.foldl_cons]
    by_cases h1 : (m.1.any fun x => clashP x.p p.1.p) = true
    · have h2 : (putX m p).2 ≠ [] := by
        unfold putX putM
        rw [if_pos h1]; simp
      have h3 := puts_some l _ h2
      obtain ⟨x, hx, hc⟩ := List.any_eq_true.1 h1
      refine ⟨⟨fun e => absurd e h3, fun ⟨_, e, _⟩ => ?_⟩, fun e => absurd e h3⟩
      have := e x hx p (by simp)
      rw [this] at hc; cases hc
    · by_cases h4 : p.2 = 0
      · have h2 : putX m p = (m.1 ++ [p.1], m.2) := by
          unfold putX putM
          rw [if_neg h1, if_pos h4]
        obtain ⟨i1, i2⟩ := puts_clean l (m.1 ++ [p.1], m.2) h
        rw [h2]
        have h5 : ∀ x ∈ m.1, clashP x.p p.1.p = false := fun x hx => by
          cases e : clashP x.p p.1.p with
          | false => rfl
          | true => exact absurd (List.any_eq_true.2 ⟨x, hx, e⟩) h1
        refine ⟨i1.trans ⟨fun ⟨e1, e2, e3⟩ => ⟨fun q hq => ?_, fun x hx q hq => ?_, List.pairwise_cons.2 ⟨fun q hq => e2 p.1 (by simp) q hq, e3⟩⟩, fun ⟨e1, e2, e3⟩ => ⟨fun q hq => e1 q (List.mem_cons_of_mem _ hq), fun x hx q hq => ?_, (List.pairwise_cons.1 e3).2⟩⟩, fun e => ?_⟩
        · rcases List.mem_cons.1 hq with rfl | hq
          · exact h4
          · exact e1 q hq
        · rcases List.mem_cons.1 hq with rfl | hq
          · exact h5 x hx
          · exact e2 x (List.mem_append.2 (.inl hx)) q hq
        · rcases List.mem_append.1 hx with hx | hx
          · exact e2 x hx q (List.mem_cons_of_mem _ hq)
          · simp only [List.mem_singleton] at hx
            subst hx
            exact (List.pairwise_cons.1 e3).1 q hq
        · rw [i2 e]; simp
      · have h2 : (putX m p).2 ≠ [] := by
          unfold putX putM
          rw [if_neg h1]
          dsimp only
          rw [if_neg h4]; simp
        have h3 := puts_some l _ h2
        exact ⟨⟨fun e => absurd e h3, fun ⟨e, _, _⟩ => absurd (e p (by simp)) h4⟩, fun e => absurd e h3⟩
theorem whole_clean (base a b : List FV) : ((wholeF base a b).2 = [] ↔ (∀ p ∈ acts base a b, p.2 = 0) ∧ (acts base a b).Pairwise fun p q => clashP p.1.p q.1.p = false) ∧ ((wholeF base a b).2 = [] → (wholeF base a b).1 = (acts base a b).map Prod.fst) := by
  rw [whole_acts]
  obtain ⟨h1, h2⟩ := puts_clean (acts base a b) ([], []) rfl
  refine ⟨h1.trans ⟨fun ⟨a, _, c⟩ => ⟨a, c⟩, fun ⟨a, c⟩ => ⟨a, by simp, c⟩⟩, fun e => by rw [h2 e]; rfl⟩

/-! ### without renames -/
theorem where_plain {base a : List FV} (h : pairsF base a = []) (f : FV) : whereF base a f = findP a f.path := by
  unfold whereF movedF
  rw [h]
  cases findP a f.path <;> rfl
theorem added_plain {base a : List FV} (h : pairsF base a = []) {g : FV} : g ∈ addedF base a ↔ g ∈ a ∧ findP base g.path = none := by
  rw [added_mem, h]; simp
theorem actA_fst {theirs : List FV} {x : FV} (h : (actA theirs x).2 = 0) : (actA theirs x).1 = x := by
  unfold actA at h ⊢
  cases hf : findP theirs x.path with
  | none => rfl
  | some y =>
    rw [hf] at h
    dsimp only at h ⊢
    by_cases e : x = y
    · rw [if_pos e]
    · rw [if_neg e] at h; cases h
theorem rise_added {base a : List FV} (ha : Rise a) : Rise (addedF base a) := rise_of_pair (ha.pair.sublist List.filter_sublist)
end Go.Proofs.YtcemkikgaeghjaaGreatDoor
