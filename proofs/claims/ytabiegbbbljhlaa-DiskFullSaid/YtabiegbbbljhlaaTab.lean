/- The table of what two texts have in common: what it says, and how it lies in memory. -/
import Derived.Test.YtabiegbbbljhlaaOwn
namespace Go.Proofs.Ytabiegbbbljhlaa
open Go.RowKit

/-! ### What it says -/
def lcs : List ByteArray → List ByteArray → Nat
  | [], _ => 0
  | _ :: _, [] => 0
  | x :: a, y :: b => if x = y then lcs a b + 1 else max (lcs a (y :: b)) (lcs (x :: a) b)
termination_by a b => a.length + b.length
theorem lcs_nil (a : List ByteArray) : lcs a [] = 0 := by cases a <;> simp [lcs]
theorem lcs_le : ∀ (a b : List ByteArray), lcs a b ≤ a.length
  | [], _ => by simp [lcs]
  | _ :: _, [] => by simp [lcs]
  | x :: a, y :: b => by
    rw [lcs]
    have h1 := lcs_le a b
    have h2 := lcs_le a (y :: b)
    have h3 := lcs_le (x :: a) b
    simp only [List.length_cons] at *
    split <;> omega
termination_by a b => a.length + b.length
def cel (a b : List ByteArray) (i k : Nat) : Nat := lcs (a.drop i) (b.drop k)
theorem cel_le (a b : List ByteArray) (i k : Nat) : cel a b i k ≤ a.length := by
  have := lcs_le (a.drop i) (b.drop k)
  rw [List.length_drop] at this
  unfold cel
  omega
theorem cel_last (a b : List ByteArray) (k : Nat) : cel a b a.length k = 0 := by simp [cel, lcs]
theorem cel_far (a b : List ByteArray) (i : Nat) : cel a b i b.length = 0 := by simp [cel, lcs_nil]
theorem cel_step {a b : List ByteArray} {i k : Nat} {x y : ByteArray} (hx : a[i]? = some x) (hy : b[k]? = some y) :
    cel a b i k = if x = y then cel a b (i + 1) (k + 1) + 1 else max (cel a b (i + 1) k) (cel a b i (k + 1)) := by
  obtain ⟨hi, rfl⟩ := List.getElem?_eq_some_iff.1 hx
  obtain ⟨hk, rfl⟩ := List.getElem?_eq_some_iff.1 hy
  unfold cel
  rw [List.drop_eq_getElem_cons hi, List.drop_eq_getElem_cons hk, lcs]
def rowP (a b : List ByteArray) (i k : Nat) : List Value := (List.range (b.length + 1)).map fun j => Value.int .i64 ((if k ≤ j then cel a b i j else 0 : Nat) : Int)
theorem rowP_len (a b : List ByteArray) (i k : Nat) : (rowP a b i k).length = b.length + 1 := by simp [rowP]
theorem rowP_get {a b : List ByteArray} {i k j : Nat} (hj : j ≤ b.length) (hk : k ≤ j) : (rowP a b i k)[j]? = some (.int .i64 (cel a b i j)) := by
  simp [rowP, List.getElem?_range (show j < b.length + 1 by omega), hk]
theorem rowP_zero (a b : List ByteArray) (i : Nat) : rowP a b i b.length = List.replicate (b.length + 1) (.int .i64 0) := by
  refine List.ext_getElem (by simp [rowP]) fun j h1 h2 => ?_
  simp only [rowP, List.getElem_map, List.getElem_range, List.getElem_replicate]
  simp only [rowP_len] at h1
  split
  · rename_i h
    have : j = b.length := by omega
    subst this
    rw [cel_far]; rfl
  · rfl
theorem rowP_last (a b : List ByteArray) : rowP a b a.length 0 = List.replicate (b.length + 1) (.int .i64 0) := by
  refine List.ext_getElem (by simp [rowP]) fun j h1 h2 => ?_
  simp only [rowP, List.getElem_map, List.getElem_replicate, Nat.zero_le, if_true, cel_last]; rfl
theorem rowP_set (a b : List ByteArray) (i k : Nat) : (rowP a b i (k + 1)).set k (.int .i64 (cel a b i k)) = rowP a b i k := by
  refine List.ext_getElem (by simp [rowP]) fun j h1 h2 => ?_
  rw [List.getElem_set]
  split
  · rename_i h
    subst h
    simp [rowP]
  · rename_i h
    simp only [rowP, List.getElem_map, List.getElem_range]
    by_cases hkj : k ≤ j
    · rw [if_pos (show k + 1 ≤ j by omega), if_pos hkj]
    · rw [if_neg (show ¬ k + 1 ≤ j by omega), if_neg hkj]

/-! ### How it lies -/
theorem Owns.insNil {w : World} {base : Nat} {l1 l2 : List OR} (h : Owns w base (l1 ++ l2)) (e : TypeId) (sz : Nat) : Owns w base (l1 ++ ⟨e, sz, .slice none 0 0, 0, []⟩ :: l2) := by
  refine ⟨fun r hr => ?_, ?_⟩
  · simp only [List.mem_append, List.mem_cons] at hr
    rcases hr with hr | rfl | hr
    · exact h.own r (by simp [hr])
    · exact World.ownsRow_nil _ _ _ _
    · exact h.own r (by simp [hr])
  · have := h.nd
    simpa [List.filterMap_append, List.filterMap_cons, Value.ownBlock] using this
/-- A new row. -/
theorem Owns.ins {w w' : World} {base : Nat} {l1 l2 : List OR} {r : OR} (h : Owns w base (l1 ++ l2)) (hg : w.grownBy w' none) (ho : w'.ownsRow base r.e r.sz r.v r.n r.xs) (hb : r.v.ownBlock = some w.heap.size) :
    Owns w' base (l1 ++ r :: l2) := Owns.turn (r := ⟨r.e, r.sz, .slice none 0 0, 0, []⟩) (h.insNil r.e r.sz) hg ho (.inr hb)

abbrev rowV (m g : Nat) : Value := .slice (some ⟨g, 0, none⟩) (m + 1) (m + 1)
def tcells (m i : Nat) (rs : List (Nat × List Value)) : List Value := List.replicate i (.slice none 0 0) ++ rs.map fun r => rowV m r.1
def trows (m : Nat) (rs : List (Nat × List Value)) : List OR := rs.map fun r => ⟨3, 1, rowV m r.1, m + 1, r.2⟩
def TB (w : World) (base g0 n m i : Nat) (rs : List (Nat × List Value)) : Prop := Owns w base (⟨64, 1, rowV n g0, n + 1, tcells m i rs⟩ :: trows m rs)

section
variable {w w' : World} {base g0 n m i : Nat} {rs : List (Nat × List Value)}
theorem TB.drew (h : TB w base g0 n m i rs) : TB w.drew base g0 n m i rs := Owns.drew h
theorem TB.top (h : TB w base g0 n m i rs) : w.ownsRow base 64 1 (rowV n g0) (n + 1) (tcells m i rs) := h.own _ (List.mem_cons_self ..)
theorem TB.at_ (h : TB w base g0 n m i rs) {q : Nat} {r : Nat × List Value} (hq : rs[q]? = some r) :
    w.cell? ⟨g0, i + q, none⟩ = some (rowV m r.1) ∧ w.ownsRow base 3 1 (rowV m r.1) (m + 1) r.2 := by
  have hl := h.top.1
  have hcell : (tcells m i rs)[i + q]? = some (rowV m r.1) := by
    rw [tcells, List.getElem?_append_right (by simp)]
    simp [hq]
  have hlt : i + q < (n + 1) * 1 := by rw [← hl]; exact (List.getElem?_eq_some_iff.1 hcell).1
  refine ⟨by rw [h.top.cellAt _ hlt]; exact hcell, ?_⟩
  exact h.own (⟨3, 1, rowV m r.1, m + 1, r.2⟩ : OR) (List.mem_cons_of_mem _ (List.mem_map.2 ⟨r, List.mem_of_getElem? hq, rfl⟩))
theorem own_cell {w : World} {base g n c : Nat} {e : TypeId} {xs : List Value} (h : w.ownsRow base e 1 (.slice (some ⟨g, 0, none⟩) n c) n xs) {j : Nat} {u : Value} (hu : xs[j]? = some u) : w.cell? ⟨g, j, none⟩ = some u := by
  have hl := h.1
  rw [h.cellAt j (by rw [← hl]; exact (List.getElem?_eq_some_iff.1 hu).1), hu]
theorem TB.ge (h : TB w base g0 n m i rs) : base ≤ g0 ∧ g0 < w.heap.size := h.top.lt g0 rfl
/-- A row more. -/
theorem TB.push (h : TB w base g0 n m (i + 1) rs) {g : Nat} {xs : List Value} (hg : w.grownBy w' none) (ho : w'.ownsRow base 3 1 (rowV m g) (m + 1) xs) (hb : g = w.heap.size) :
    TB (w'.setCell ⟨g0, i, none⟩ (rowV m g)) base g0 n m i ((g, xs) :: rs) := by
  have h1 : Owns w' base ([⟨64, 1, rowV n g0, n + 1, tcells m (i + 1) rs⟩] ++ ⟨3, 1, rowV m g, m + 1, xs⟩ :: trows m rs) := Owns.ins (r := ⟨3, 1, rowV m g, m + 1, xs⟩) h hg ho (by rw [hb]; rfl)
  have h2 := World.ownsRow.stored (h1.own (⟨64, 1, rowV n g0, n + 1, tcells m (i + 1) rs⟩ : OR) (by simp)) i (rowV m g)
  refine Owns.turn (l1 := []) (r := ⟨64, 1, rowV n g0, n + 1, tcells m (i + 1) rs⟩) (r' := ⟨64, 1, rowV n g0, n + 1, tcells m i ((g, xs) :: rs)⟩) h1 h2.2 ?_ (.inl rfl)
  have e : (tcells m (i + 1) rs).set i (rowV m g) = tcells m i ((g, xs) :: rs) := by
    unfold tcells
    rw [List.replicate_succ', List.append_assoc, List.set_append_right _ _ (by simp)]
    simp
  have h3 := h2.1
  simp only at h3
  rw [e] at h3
  exact h3
/-- A store into the first row. -/
theorem TB.store {g : Nat} {xs : List Value} (h : TB w base g0 n m i ((g, xs) :: rs)) (k : Nat) (u : Value) : TB (w.setCell ⟨g, k, none⟩ u) base g0 n m i ((g, xs.set k u) :: rs) := by
  have h2 := World.ownsRow.stored (h.at_ (q := 0) rfl).2 k u
  exact Owns.turn (l1 := [⟨64, 1, rowV n g0, n + 1, tcells m i ((g, xs) :: rs)⟩]) (r := ⟨3, 1, rowV m g, m + 1, xs⟩) (r' := ⟨3, 1, rowV m g, m + 1, xs.set k u⟩) h h2.2 h2.1 (.inl rfl)
theorem TB.start (h : w.ownsRow base 64 1 (rowV n g0) (n + 1) (List.replicate (n + 1) (.slice none 0 0))) : TB w base g0 n m (n + 1) [] :=
  ⟨fun r hr => by obtain rfl := List.mem_singleton.1 hr; simpa [tcells] using h, by simp [trows, Value.ownBlock]⟩
theorem TB.same (h : TB w base g0 n m i rs) (hg : w.grownBy w' none) : TB w' base g0 n m i rs := Owns.same h hg
theorem TB.slot (h : TB w base g0 n m (i + 1) rs) : w.cell? ⟨g0, i, none⟩ = some (.slice none 0 0) :=
  own_cell h.top (by rw [tcells, List.getElem?_append_left (by simp)]; simp)
theorem TB.frz (h : TB w base g0 n m i rs) (j : Nat) : w.frozen? ⟨g0, j, none⟩ = false := h.top.frozenAt j
theorem TB.frz1 {g : Nat} {xs : List Value} (h : TB w base g0 n m i ((g, xs) :: rs)) (j : Nat) : w.frozen? ⟨g, j, none⟩ = false := (h.at_ (q := 0) rfl).2.frozenAt j
theorem TB.len (h : TB w base g0 n m i rs) : i + rs.length = n + 1 := by
  have := h.top.1
  simpa [tcells] using this
end
end Go.Proofs.Ytabiegbbbljhlaa
