/- Changes from one tree to another one: plain laws; maps.Copy; strings of the call's own, sorted. -/
import Derived.Test.YtahlfafcjjkliaaGreatDoorU9
import Derived.Sort.OwnSorted
import Derived.Lib.OwnBridge
namespace Go.Proofs.YtahlfafcjjkliaaGreatDoor
open Go.RowKit

structure ChV where
  path : ByteArray
  del : Bool
  exec : Bool
  text : ByteArray
deriving DecidableEq
def ChV.cells (x : ChV) : List Value := [.string x.path, .bool x.del, .bool x.exec, .string x.text]
theorem ChV.cells_len (x : ChV) : x.cells.length = 4 := rfl

def hasS (ns : List ByteArray) (p : ByteArray) : Bool := ns.any fun q => decide (q = p)
theorem hasS_iff {ns : List ByteArray} {p : ByteArray} : hasS ns p = true ↔ p ∈ ns := by
  simp [hasS]
/-- One path more, in its place. -/
def insP (ns : List ByteArray) (p : ByteArray) : List ByteArray :=
  if hasS ns p = true then ns else ns.takeWhile (fun q => decide (q.data.toList < p.data.toList)) ++ p :: ns.dropWhile (fun q => decide (q.data.toList < p.data.toList))
def namesOf (l : List FV) : List ByteArray := l.foldl (fun ns f => insP ns f.path) []
/-- Rising. -/
def UpP (ns : List ByteArray) : Prop := ns.Pairwise fun a b => a.data.toList < b.data.toList
theorem insP_mem {ns : List ByteArray} {p x : ByteArray} : x ∈ insP ns p ↔ x ∈ ns ∨ x = p := by
  unfold insP
  split
  · constructor
    · exact .inl
    · rintro (h | rfl)
      · exact h
      · rename_i h; exact hasS_iff.1 h
  · rw [List.mem_append, List.mem_cons]
    conv => rhs; rw [← List.takeWhile_append_dropWhile (p := fun q => decide (q.data.toList < p.data.toList)) (l := ns), List.mem_append]
    constructor
    · rintro (h | h | h)
      · exact .inl (.inl h)
      · exact .inr h
      · exact .inl (.inr h)
    · rintro ((h | h) | h)
      · exact .inl h
      · exact .inr (.inr h)
      · exact .inr (.inl h)
theorem mem_takeWhile_true {α : Type} {q : α → Bool} : ∀ {l : List α} {x : α}, x ∈ l.takeWhile q → q x = true
  | y :: l, x, h => by
    rw [List.takeWhile_cons] at h
    split at h
    · rename_i hq
      rcases List.mem_cons.1 h with rfl | h
      · exact hq
      · exact mem_takeWhile_true h
    · cases h
theorem dropWhile_ge {p : ByteArray} : ∀ {ns : List ByteArray}, UpP ns → p ∉ ns → ∀ x ∈ ns.dropWhile (fun q => decide (q.data.toList < p.data.toList)), p.data.toList < x.data.toList
  | [], _, _, x, h => by cases h
  | y :: ns, hu, hn, x, h => by
    have hu2 := List.pairwise_cons.1 hu
    rw [List.dropWhile_cons] at h
    split at h
    · exact dropWhile_ge hu2.2 (fun e => hn (List.mem_cons_of_mem _ e)) x h
    · rename_i hq
      have hy : p.data.toList < y.data.toList := by
        rcases bs_tri p.data.toList y.data.toList with h1 | h1 | h1
        · exact h1
        · exact absurd (List.mem_cons.2 (.inl (ba_ext h1))) hn
        · exact absurd (decide_eq_true h1) hq
      rcases List.mem_cons.1 h with rfl | h
      · exact hy
      · exact lt_trans_bs hy (hu2.1 x h)
theorem insP_up {ns : List ByteArray} (h : UpP ns) (p : ByteArray) : UpP (insP ns p) := by
  unfold insP
  split
  · exact h
  · rename_i hn0
    have hn : p ∉ ns := fun e => hn0 (hasS_iff.2 e)
    have h2 := h
    rw [UpP, ← List.takeWhile_append_dropWhile (p := fun q => decide (q.data.toList < p.data.toList)) (l := ns), List.pairwise_append] at h2
    refine List.pairwise_append.2 ⟨h2.1, List.pairwise_cons.2 ⟨dropWhile_ge h hn, h2.2.1⟩, fun a ha b hb => ?_⟩
    have ha' : a.data.toList < p.data.toList := of_decide_eq_true (mem_takeWhile_true (q := fun q : ByteArray => decide (q.data.toList < p.data.toList)) ha)
    rcases List.mem_cons.1 hb with rfl | hb
    · exact ha'
    · exact lt_trans_bs ha' (dropWhile_ge h hn b hb)
theorem namesOf_snoc (l : List FV) (f : FV) : namesOf (l ++ [f]) = insP (namesOf l) f.path := by simp [namesOf, List.foldl_append]
theorem fold_names (l : List FV) : ∀ ns, UpP ns → UpP (l.foldl (fun ns f => insP ns f.path) ns) ∧ ∀ x, x ∈ l.foldl (fun ns f => insP ns f.path) ns ↔ x ∈ ns ∨ ∃ f ∈ l, f.path = x := by
  induction l with
  | nil => intro ns h; exact ⟨h, fun x => by simp⟩
  | cons f l ih =>
    intro ns h
    obtain ⟨h1, h2⟩ := ih _ (insP_up h f.path)
    refine ⟨h1, fun x => ?_⟩
    rw [List.foldl_cons, h2, insP_mem]
    constructor
    · rintro ((h | h) | ⟨g, hg, e⟩)
      · exact .inl h
      · exact .inr ⟨f, by simp, h.symm⟩
      · exact .inr ⟨g, by simp [hg], e⟩
    · rintro (h | ⟨g, hg, e⟩)
      · exact .inl (.inl h)
      · rcases List.mem_cons.1 hg with rfl | hg
        · exact .inl (.inr e.symm)
        · exact .inr ⟨g, hg, e⟩
theorem namesOf_up (l : List FV) : UpP (namesOf l) := (fold_names l [] List.Pairwise.nil).1
theorem namesOf_mem {l : List FV} {x : ByteArray} : x ∈ namesOf l ↔ ∃ f ∈ l, f.path = x := by
  rw [namesOf, (fold_names l [] List.Pairwise.nil).2]; simp
theorem up_uniq : ∀ {a b : List ByteArray}, UpP a → UpP b → (∀ x, x ∈ a ↔ x ∈ b) → a = b
  | [], [], _, _, _ => rfl
  | [], y :: b, _, _, h => absurd ((h y).2 (by simp)) (by simp)
  | x :: a, [], _, _, h => absurd ((h x).1 (by simp)) (by simp)
  | x :: a, y :: b, ha, hb, h => by
    have ha2 := List.pairwise_cons.1 ha
    have hb2 := List.pairwise_cons.1 hb
    have hxy : x = y := by
      rcases List.mem_cons.1 ((h x).1 (by simp)) with e | h1
      · exact e
      · rcases List.mem_cons.1 ((h y).2 (by simp)) with e | h2
        · exact e.symm
        · exact absurd (lt_trans_bs (ha2.1 y h2) (hb2.1 x h1)) (not_lt_self _)
    subst hxy
    refine congrArg _ (up_uniq ha2.2 hb2.2 fun z => ?_)
    constructor
    · intro hz
      rcases List.mem_cons.1 ((h z).1 (by simp [hz])) with e | h1
      · subst e; exact absurd (ha2.1 _ hz) (not_lt_self _)
      · exact h1
    · intro hz
      rcases List.mem_cons.1 ((h z).2 (by simp [hz])) with e | h1
      · subst e; exact absurd (hb2.1 _ hz) (not_lt_self _)
      · exact h1
theorem insP_len (ns : List ByteArray) (p : ByteArray) : (insP ns p).length ≤ ns.length + 1 := by
  unfold insP
  split
  · omega
  · have := congrArg List.length (List.takeWhile_append_dropWhile (p := fun q => decide (q.data.toList < p.data.toList)) (l := ns))
    rw [List.length_append] at this
    rw [List.length_append, List.length_cons]
    omega
theorem namesOf_len (l : List FV) : (namesOf l).length ≤ l.length := by
  have : ∀ (l : List FV) ns, (l.foldl (fun ns f => insP ns f.path) ns).length ≤ ns.length + l.length := by
    intro l
    induction l with
    | nil => intro ns; simp
    | cons f l ih => intro ns; have := ih (insP ns f.path); have := insP_len ns f.path; simp only [List.foldl_cons, List.length_cons]; omega
  have := this l []
  simpa [namesOf] using this
/-- What changes at a path. -/
def chgAt (a b : List FV) (p : ByteArray) : List ChV :=
  match findP b p with
  | none => [⟨p, true, false, ⟨#[]⟩⟩]
  | some y => if findP a p = some y then [] else [⟨p, false, y.exec, y.text⟩]
def changesF (a b : List FV) : List ChV := (namesOf (a ++ b)).flatMap (chgAt a b)

/-! ### strings of the call's own, sorted -/
theorem sortS_row {w : World} {base : Nat} {v : Value} {ss : List (List UInt8)} (h : w.ownsRow base 9 1 v ss.length (ss.map encStr)) (hz : ss.length < 4611686018427387904) :
    Calls Tryz.prog 44 #[v] w fun e w' => e = .returned (.tuple #[]) ∧ w'.ownsRow base 9 1 v ss.length ((ss.mergeSort fun x y => decide (x ≤ y)).map encStr) ∧ w.grownBy w' v.ownBlock := by
  rcases h.2 with ⟨rfl, hx⟩ | ⟨g, cap, cur, rfl, hb, hg, hnc, hcm, hcs, ht⟩
  · have : ss = [] := by
      rcases ss with _ | ⟨a, r⟩
      · rfl
      · simp at hx
    subst this
    refine (Tryz.slices_Sort_string_none none 0 w).mono ?_
    rintro e w' ⟨rfl, rfl⟩
    exact ⟨rfl, by simpa using h, World.grownBy.refl _ _⟩
  · rw [Nat.mul_one] at ht
    refine (Tryz.slices_Sort_string g 0 cap ss w (holds_of_block hg ht) (h.lt g rfl).2 hz).mono ?_
    rintro e w' ⟨rfl, n, os, rfl⟩
    exact ⟨rfl, ownsRow_sorted (by rw [List.length_mergeSort]) hb hg hnc hcm hcs, grownBy_sorted _⟩
theorem bs_le_iff {a b : Bs} : a ≤ b ↔ ¬ b < a := List.not_lt.symm
/-- Sorted, and none twice: rising. -/
theorem sorted_up {ss : List (List UInt8)} (hn : ss.Nodup) : (ss.mergeSort fun x y => decide (x ≤ y)).Pairwise (· < ·) := by
  have h1 := List.pairwise_mergeSort (le := fun x y : List UInt8 => decide (x ≤ y)) (fun a b c h1 h2 => by
    simp only [decide_eq_true_eq] at *; exact List.le_trans h1 h2) (fun a b => by
    simp only [Bool.or_eq_true, decide_eq_true_eq]; exact List.le_total a b) ss
  have h2 : (ss.mergeSort fun x y => decide (x ≤ y)).Nodup := (List.mergeSort_perm _ _).nodup_iff.2 hn
  rw [List.nodup_iff_pairwise_ne] at h2
  refine (h1.and h2).imp ?_
  intro a b h
  have hle : a ≤ b := by simpa using h.1
  rcases bs_tri a b with h3 | h3 | h3
  · exact h3
  · exact absurd h3 h.2
  · exact absurd h3 (List.not_lt.2 hle)
end Go.Proofs.YtahlfafcjjkliaaGreatDoor
