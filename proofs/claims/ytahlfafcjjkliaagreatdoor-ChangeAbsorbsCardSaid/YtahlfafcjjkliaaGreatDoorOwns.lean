/- Rows of a call's own that lie apart. -/
import Derived.Test.YtahlfafcjjkliaaGreatDoorLate
namespace Go.Proofs.YtahlfafcjjkliaaGreatDoor
open Go.RowKit

/-! ### Rows of the call's own -/
structure OR where
  e : TypeId
  sz : Nat
  v : Value
  n : Nat
  xs : List Value
/-- They are the call's own, and no two of them share a block. -/
structure Owns (w : World) (base : Nat) (l : List OR) : Prop where
  own : ∀ r ∈ l, w.ownsRow base r.e r.sz r.v r.n r.xs
  nd : (l.filterMap fun r => r.v.ownBlock).Nodup

section
variable {w w' : World} {base : Nat} {l l1 l2 : List OR} {r r' : OR}
theorem Owns.get (h : Owns w base l) {i : Nat} (hi : l[i]? = some r) : w.ownsRow base r.e r.sz r.v r.n r.xs := h.own r (List.mem_of_getElem? hi)
theorem Owns.turn (h : Owns w base (l1 ++ r :: l2)) (hg : w.grownBy w' r.v.ownBlock) (ho : w'.ownsRow base r'.e r'.sz r'.v r'.n r'.xs)
    (hb : r'.v.ownBlock = r.v.ownBlock ∨ r'.v.ownBlock = some w.heap.size) : Owns w' base (l1 ++ r' :: l2) := by
  have hnd := h.nd
  simp only [List.filterMap_append, List.filterMap_cons] at hnd
  have hlt : ∀ s ∈ l1 ++ l2, ∀ g, s.v.ownBlock = some g → g < w.heap.size := fun s hs g hg => ((h.own s (by
    simp only [List.mem_append, List.mem_cons] at *; rcases hs with hs | hs <;> simp [hs])).lt g hg).2
  have hne : ∀ s ∈ l1 ++ l2, s.v.ownBlock = none ∨ s.v.ownBlock ≠ r.v.ownBlock := by
    intro s hs
    cases hv : s.v.ownBlock with
    | none => exact .inl rfl
    | some g =>
      right
      intro e
      rw [← e] at hnd
      simp only at hnd
      have hmem : g ∈ l1.filterMap (fun r => r.v.ownBlock) ∨ g ∈ l2.filterMap (fun r => r.v.ownBlock) := by
        rcases List.mem_append.1 hs with hs | hs
        · exact .inl (List.mem_filterMap.2 ⟨s, hs, hv⟩)
        · exact .inr (List.mem_filterMap.2 ⟨s, hs, hv⟩)
      rw [List.nodup_append] at hnd
      rcases hmem with hm | hm
      · exact hnd.2.2 g hm g (by simp) rfl
      · exact (List.nodup_cons.1 hnd.2.1).1 hm
  refine ⟨fun s hs => ?_, ?_⟩
  · simp only [List.mem_append, List.mem_cons] at hs
    rcases hs with hs | rfl | hs
    · exact (h.own s (by simp [hs])).kept hg (hne s (by simp [hs]))
    · exact ho
    · exact (h.own s (by simp [hs])).kept hg (hne s (by simp [hs]))
  · simp only [List.filterMap_append, List.filterMap_cons]
    rcases hb with e | e
    · rw [e]; exact hnd
    · rw [e]
      simp only
      have h12 : (l1.filterMap (fun r => r.v.ownBlock) ++ l2.filterMap (fun r => r.v.ownBlock)).Nodup := by
        cases hv : r.v.ownBlock with
        | none => rw [hv] at hnd; exact hnd
        | some g =>
          rw [hv] at hnd
          simp only at hnd
          rw [List.nodup_append] at hnd ⊢
          exact ⟨hnd.1, (List.nodup_cons.1 hnd.2.1).2, fun a ha b hb => hnd.2.2 a ha b (List.mem_cons_of_mem _ hb)⟩
      have hn1 : ∀ l : List OR, (∀ s ∈ l, s ∈ l1 ++ l2) → w.heap.size ∉ l.filterMap (fun r => r.v.ownBlock) := by
        intro l hl hm
        obtain ⟨s, hs, hv⟩ := List.mem_filterMap.1 hm
        exact absurd (hlt s (hl s hs) _ hv) (Nat.lt_irrefl _)
      rw [List.nodup_append] at h12 ⊢
      refine ⟨h12.1, List.nodup_cons.2 ⟨hn1 l2 (fun s hs => by simp [hs]), h12.2.1⟩, fun a ha b hb => ?_⟩
      rcases List.mem_cons.1 hb with rfl | hb
      · intro e2; subst e2; exact hn1 l1 (fun s hs => by simp [hs]) ha
      · exact h12.2.2 a ha b hb
theorem Owns.same (h : Owns w base l) (hg : w.grownBy w' none) : Owns w' base l :=
  ⟨fun s hs => (h.own s hs).kept hg (by cases s.v.ownBlock <;> simp), h.nd⟩
theorem Owns.alloc (h : Owns w base l) (o : Obj) : Owns (w.alloc o) base l := h.same (World.grownBy_alloc w o none)
theorem Owns.drew (h : Owns w base l) : Owns w.drew base l := ⟨fun s hs => (h.own s hs).drew, h.nd⟩
theorem Owns.drewN (h : Owns w base l) (k : Nat) : Owns (w.drewN k) base l := ⟨fun s hs => h.own s hs, h.nd⟩
/-- Empty rows more. -/
theorem Owns.nils (h : Owns w base l) {m : List OR} (hm : ∀ r ∈ m, r.v = .slice none 0 0 ∧ r.n = 0 ∧ r.xs = []) : Owns w base (l ++ m) := by
  refine ⟨fun s hs => ?_, ?_⟩
  · rcases List.mem_append.1 hs with hs | hs
    · exact h.own s hs
    · obtain ⟨e1, e2, e3⟩ := hm s hs
      rw [e1, e2, e3]
      exact World.ownsRow_nil _ _ _ _
  · have : m.filterMap (fun r => r.v.ownBlock) = [] := by
      rw [List.filterMap_eq_nil_iff]
      intro s hs
      rw [(hm s hs).1]; rfl
    rw [List.filterMap_append, this, List.append_nil]
    exact h.nd
/-- One row apart from another. -/
theorem Owns.ne (h : Owns w base (l1 ++ r :: l2)) {s : OR} (hs : s ∈ l1 ++ l2) {g : Nat} (hg : r.v.ownBlock = some g) : s.v.ownBlock ≠ some g := by
  intro e
  have hnd := h.nd
  simp only [List.filterMap_append, List.filterMap_cons, hg] at hnd
  rw [List.nodup_append] at hnd
  rcases List.mem_append.1 hs with hs | hs
  · exact hnd.2.2 g (List.mem_filterMap.2 ⟨s, hs, e⟩) g (by simp) rfl
  · exact (List.nodup_cons.1 hnd.2.1).1 (List.mem_filterMap.2 ⟨s, hs, e⟩)
end

theorem len_flat {α : Type} {f : α → List Value} {k : Nat} (hf : ∀ a, (f a).length = k) : ∀ l : List α, (l.flatMap f).length = l.length * k
  | [] => by simp
  | a :: l => by rw [List.flatMap_cons, List.length_append, hf, len_flat hf l, List.length_cons, Nat.succ_mul]; omega

end Go.Proofs.YtahlfafcjjkliaaGreatDoor
