/- Markers, plainly: what follows, what is reached, what is final; lists in order. -/
import Derived.Test.YtnkboccngialiaaPlain
namespace Go.Proofs.Ytnkboccngialiaa
open Go.RowKit

structure MV where
  old : Int
  A : Option Addr
  c : Nat
  new : List Int
def MV.cells (m : MV) : List Value := [.int .i64 m.old, .slice m.A m.new.length m.c]

def nexts (ms : List MV) (k : Int) : List Int := ms.flatMap fun m => if m.old = k then m.new else []
def obs (ms : List MV) (k : Int) : Bool := ms.any fun m => decide (m.old = k)
def okM (n : Int) (m : MV) : Bool := decide (0 ≤ m.old) && decide (m.old < n) && decide (m.new.length ≤ 2000) && m.new.all fun x => decide (m.old < x) && decide (x < n)
def rightM (n : Int) (ms : List MV) : Bool := ms.all (okM n)
def fewM (ms : List MV) : Bool := ms.all (fun m => decide (m.new.length ≤ 12)) && decide (ms.length ≤ 40)

inductive Reach (ms : List MV) (i : Int) : Int → Prop
  | refl : Reach ms i i
  | step {k x : Int} : Reach ms i k → x ∈ nexts ms k → k < x → Reach ms i x

structure FinalIs (ms : List MV) (i : Int) (l : List Int) : Prop where
  sorted : l.Pairwise (· < ·)
  mem : ∀ x, x ∈ l ↔ Reach ms i x ∧ obs ms x = false
structure NextIs (ms : List MV) (i : Int) (l : List Int) : Prop where
  sorted : l.Pairwise (· < ·)
  mem : ∀ x, x ∈ l ↔ x ∈ nexts ms i

theorem sorted_ext : ∀ {l l' : List Int}, l.Pairwise (· < ·) → l'.Pairwise (· < ·) → (∀ x, x ∈ l ↔ x ∈ l') → l = l'
  | [], [], _, _, _ => rfl
  | [], b :: r, _, _, h => by have := (h b).2 (by simp); cases this
  | a :: r, [], _, _, h => by have := (h a).1 (by simp); cases this
  | a :: r, b :: r', h1, h2, h => by
    rw [List.pairwise_cons] at h1 h2
    have hab : a = b := by
      rcases List.mem_cons.1 ((h a).1 (by simp)) with e | e
      · exact e
      · rcases List.mem_cons.1 ((h b).2 (by simp)) with e' | e'
        · exact e'.symm
        · have := h1.1 _ e'; have := h2.1 _ e; omega
    subst hab
    congr 1
    refine sorted_ext h1.2 h2.2 fun x => ⟨fun hx => ?_, fun hx => ?_⟩
    · rcases List.mem_cons.1 ((h x).1 (by simp [hx])) with e | e
      · subst e; have := h1.1 _ hx; omega
      · exact e
    · rcases List.mem_cons.1 ((h x).2 (by simp [hx])) with e | e
      · subst e; have := h2.1 _ hx; omega
      · exact e
theorem FinalIs.uniq {ms : List MV} {i : Int} {l l' : List Int} (h : FinalIs ms i l) (h' : FinalIs ms i l') : l = l' :=
  sorted_ext h.sorted h'.sorted fun x => by rw [h.mem, h'.mem]
theorem NextIs.uniq {ms : List MV} {i : Int} {l l' : List Int} (h : NextIs ms i l) (h' : NextIs ms i l') : l = l' :=
  sorted_ext h.sorted h'.sorted fun x => by rw [h.mem, h'.mem]

theorem obs_no {ms : List MV} {k : Int} (h : obs ms k = false) : nexts ms k = [] := by
  unfold obs at h; unfold nexts
  rw [List.any_eq_false] at h
  rw [List.flatMap_eq_nil_iff]
  intro m hm
  have := h m hm
  rw [if_neg (by simpa using this)]
theorem nexts_obs {ms : List MV} {k x : Int} (h : x ∈ nexts ms k) : obs ms k = true := by
  cases ho : obs ms k with
  | true => rfl
  | false => rw [obs_no ho] at h; cases h
theorem nexts_snoc (ms : List MV) (m : MV) (k : Int) : nexts (ms ++ [m]) k = if m.old = k then nexts ms k ++ m.new else nexts ms k := by
  unfold nexts; rw [List.flatMap_append]; split <;> simp_all
theorem obs_snoc (ms : List MV) (m : MV) (k : Int) : obs (ms ++ [m]) k = (obs ms k || decide (m.old = k)) := by
  unfold obs; simp
theorem Reach.le {ms : List MV} {i x : Int} (h : Reach ms i x) : i ≤ x := by
  induction h with
  | refl => omega
  | step _ _ hlt ih => omega
theorem Reach.trans {ms : List MV} {i k x : Int} (h : Reach ms i k) (h' : Reach ms k x) : Reach ms i x := by
  induction h' with
  | refl => exact h
  | step _ hx hlt ih => exact .step ih hx hlt
theorem Reach.head {ms : List MV} {i x : Int} (h : Reach ms i x) : x = i ∨ ∃ y, y ∈ nexts ms i ∧ i < y ∧ Reach ms y x := by
  induction h with
  | refl => exact .inl rfl
  | @step k x hk hx hlt ih =>
    right
    rcases ih with rfl | ⟨y, hy, h1, h2⟩
    · exact ⟨x, hx, hlt, .refl⟩
    · exact ⟨y, hy, h1, .step h2 hx hlt⟩
theorem FinalIs.self {ms : List MV} {i : Int} (h : obs ms i = false) : FinalIs ms i [i] := by
  refine ⟨by simp, fun x => ?_⟩
  rw [List.mem_singleton]
  constructor
  · rintro rfl; exact ⟨.refl, h⟩
  · rintro ⟨hr, _⟩
    rcases hr.head with e | ⟨y, hy, _⟩
    · exact e
    · rw [obs_no h] at hy; cases hy

/-! ### a closed set of numbers -/
/-- A set that holds i, in which all are reached, and which is closed, is what is reached. -/
theorem reach_iff {ms : List MV} {i : Int} {S : Int → Prop} (h0 : S i) (hr : ∀ x, S x → Reach ms i x) (hc : ∀ k x, S k → x ∈ nexts ms k → k < x → S x) (x : Int) : Reach ms i x ↔ S x := by
  refine ⟨fun h => ?_, hr x⟩
  induction h with
  | refl => exact h0
  | step _ hx hlt ih => exact hc _ _ ih hx hlt

/-- A list without doubles, all of it in another one, is no longer. -/
theorem nodup_le : ∀ {l u : List Int}, l.Nodup → (∀ x ∈ l, x ∈ u) → l.length ≤ u.length
  | [], u, _, _ => by simp
  | a :: l, u, hn, hs => by
    rw [List.nodup_cons] at hn
    have ha : a ∈ u := hs a (by simp)
    have h1 := nodup_le (l := l) (u := u.erase a) hn.2 fun x hx => by
      have hne : x ≠ a := fun e => hn.1 (e ▸ hx)
      exact (List.mem_erase_of_ne hne).2 (hs x (by simp [hx]))
    rw [List.length_erase_of_mem ha] at h1
    have : 0 < u.length := List.length_pos_of_mem ha
    simp only [List.length_cons]; omega

/-- All that may come up. -/
def univ (ms : List MV) (i : Int) : List Int := i :: ms.flatMap (·.new)
theorem nexts_univ {ms : List MV} {i k x : Int} (h : x ∈ nexts ms k) : x ∈ univ ms i := by
  unfold nexts at h; unfold univ
  rw [List.mem_flatMap] at h
  obtain ⟨m, hm, hx⟩ := h
  split at hx
  · exact List.mem_cons_of_mem _ (List.mem_flatMap.2 ⟨m, hm, hx⟩)
  · cases hx
theorem flat_le {ms : List MV} (h : ∀ m ∈ ms, m.new.length ≤ 12) : (ms.flatMap (·.new)).length ≤ ms.length * 12 := by
  induction ms with
  | nil => simp
  | cons m ms ih =>
    rw [List.flatMap_cons, List.length_append, List.length_cons, Nat.succ_mul]
    have := ih fun m hm => h m (by simp [hm]); have := h m (by simp); omega
theorem nexts_le {ms : List MV} (k : Int) (h : ∀ m ∈ ms, m.new.length ≤ 12) : (nexts ms k).length ≤ ms.length * 12 := by
  unfold nexts
  induction ms with
  | nil => simp
  | cons m ms ih =>
    rw [List.flatMap_cons, List.length_append, List.length_cons, Nat.succ_mul]
    have := ih fun m hm => h m (by simp [hm])
    have := h m (by simp)
    split
    · omega
    · rw [List.length_nil]; omega
theorem few_iff {ms : List MV} (h : fewM ms = true) : (∀ m ∈ ms, m.new.length ≤ 12) ∧ ms.length ≤ 40 := by
  simp only [fewM, Bool.and_eq_true, List.all_eq_true, decide_eq_true_eq] at h
  exact h
theorem univ_le {ms : List MV} {i : Int} (h : fewM ms = true) : (univ ms i).length ≤ 481 := by
  obtain ⟨h1, h2⟩ := few_iff h
  have := flat_le h1
  simp only [univ, List.length_cons]; omega

/-! ### a number in its place -/
/-- Where: behind all that is not greater, as far as one sees from the end. -/
structure PlaceIs (l : List Int) (v : Int) (k : Nat) : Prop where
  le : k ≤ l.length
  after : ∀ j x, k ≤ j → l[j]? = some x → v < x
  at_ : k = 0 ∨ ∃ x, l[k-1]? = some x ∧ x ≤ v
structure AddIs (l : List Int) (v : Int) (l' : List Int) : Prop where
  len : l'.length ≤ l.length + 1
  mem : ∀ x, x ∈ l' ↔ x ∈ l ∨ x = v
  sorted : l.Pairwise (· < ·) → l'.Pairwise (· < ·)
theorem addIs_in {l : List Int} {v : Int} (h : v ∈ l) : AddIs l v l :=
  ⟨by omega, fun x => ⟨fun hx => .inl hx, fun hx => hx.elim id fun e => e ▸ h⟩, id⟩
theorem addIs_place {l : List Int} {v : Int} {k : Nat} (hv : v ∉ l) (h : PlaceIs l v k) : AddIs l v (l.take k ++ [v] ++ l.drop k) := by
  refine ⟨by simp; have := h.le; omega, fun x => ?_, fun hs => ?_⟩
  · simp only [List.mem_append, List.mem_singleton]
    have : x ∈ l ↔ x ∈ l.take k ∨ x ∈ l.drop k := by rw [← List.mem_append, List.take_append_drop]
    rw [this]
    constructor
    · rintro ((h | h) | h) <;> simp [h]
    · rintro ((h | h) | h) <;> simp [h]
  · rw [List.pairwise_append, List.pairwise_append]
    have hlt : ∀ x ∈ l.take k, x < v := by
      intro x hx
      rcases h.at_ with rfl | ⟨y, hy, hyv⟩
      · simp at hx
      · have hne : y ≠ v := fun e => hv (e ▸ List.mem_of_getElem? hy)
        obtain ⟨j, hj⟩ := List.getElem?_of_mem hx
        rw [List.getElem?_take] at hj
        split at hj
        · rename_i hjk
          by_cases e : j = k - 1
          · subst e; rw [hy] at hj; cases hj; omega
          · have h1 : k - 1 < l.length := (List.getElem?_eq_some_iff.1 hy).1
            have h2 : j < l.length := (List.getElem?_eq_some_iff.1 hj).1
            have := List.pairwise_iff_getElem.1 hs j (k-1) h2 h1 (by omega)
            rw [(List.getElem?_eq_some_iff.1 hj).2, (List.getElem?_eq_some_iff.1 hy).2] at this
            omega
        · cases hj
    have hgt : ∀ x ∈ l.drop k, v < x := by
      intro x hx
      obtain ⟨j, hj⟩ := List.getElem?_of_mem hx
      rw [List.getElem?_drop] at hj
      exact h.after _ _ (by omega) hj
    refine ⟨⟨hs.sublist (List.take_sublist _ _), by simp, fun a ha b hb => ?_⟩, hs.sublist (List.drop_sublist _ _), fun a ha b hb => ?_⟩
    · rw [List.mem_singleton] at hb; subst hb; exact hlt a ha
    · rcases List.mem_append.1 ha with ha | ha
      · have := hlt a ha; have := hgt b hb; omega
      · rw [List.mem_singleton] at ha; subst ha; exact hgt b hb
end Go.Proofs.Ytnkboccngialiaa
