/- Texts of the walks, together: Walk: the document's Renames: files of the same text. -/
import Derived.Test.YtcemkikgaeghjaaGreatDoorG35
namespace Go.Proofs.YtcemkikgaeghjaaGreatDoor
open Go.RowKit

structure RW (w0 w : World) (n m : Nat) (va vb vt : Value) (is js : List Nat) (tl : List Int) : Prop where
  bel : Below w0.heap.size w0 w
  own : Owns w w0.heap.size [⟨4, 1, va, n, boolsV (bitsL n is)⟩, ⟨4, 1, vb, m, boolsV (bitsL m js)⟩, ⟨3, 1, vt, n, intsV tl⟩]
section
variable {w0 w w' : World} {n m : Nat} {va vb vt : Value} {is js : List Nat} {tl : List Int}
theorem RW.grow (h : RW w0 w n m va vb vt is js tl) (hb : Below w.heap.size w w') : RW w0 w' n m va vb vt is js tl :=
  ⟨h.bel.trans (hb.mono h.bel.size), ⟨fun r hr => ownsRow_below' (h.own.own r hr) hb, h.own.nd⟩⟩
theorem RW.a (h : RW w0 w n m va vb vt is js tl) : w.ownsRow w0.heap.size 4 1 va n (boolsV (bitsL n is)) := h.own.get (i := 0) rfl
theorem RW.b (h : RW w0 w n m va vb vt is js tl) : w.ownsRow w0.heap.size 4 1 vb m (boolsV (bitsL m js)) := h.own.get (i := 1) rfl
theorem RW.t (h : RW w0 w n m va vb vt is js tl) : w.ownsRow w0.heap.size 3 1 vt n (intsV tl) := h.own.get (i := 2) rfl
theorem row_at {e : TypeId} {v : Value} {xs : List Value} {x : Nat} {u : Value} (h : w.ownsRow w0.heap.size e 1 v n xs) (hu : xs[x]? = some u) : ∃ g c, v = .slice (some ⟨g, 0, none⟩) n c ∧ w.cell? ⟨g, x, none⟩ = some u ∧ w.frozen? ⟨g, x, none⟩ = false ∧ w0.heap.size ≤ g ∧ g < w.heap.size := by
  have hl := h.1
  have hx := (List.getElem?_eq_some_iff.1 hu).1
  rcases id h.2 with ⟨rfl, hn⟩ | ⟨g, c, cur, rfl, _⟩
  · exfalso; omega
  · exact ⟨g, c, rfl, own_cell h hu, h.frozenAt x, h.lt g rfl⟩
theorem RW.at_a (h : RW w0 w n m va vb vt is js tl) {x : Nat} (hx : x < n) : ∃ g c, va = .slice (some ⟨g, 0, none⟩) n c ∧ w.cell? ⟨g, x, none⟩ = some (.bool (decide (x ∈ is))) ∧ w.frozen? ⟨g, x, none⟩ = false ∧ w0.heap.size ≤ g ∧ g < w.heap.size := row_at h.a (bitsL_get hx)
theorem RW.at_b (h : RW w0 w n m va vb vt is js tl) {x : Nat} (hx : x < m) : ∃ g c, vb = .slice (some ⟨g, 0, none⟩) m c ∧ w.cell? ⟨g, x, none⟩ = some (.bool (decide (x ∈ js))) ∧ w.frozen? ⟨g, x, none⟩ = false ∧ w0.heap.size ≤ g ∧ g < w.heap.size := row_at h.b (bitsL_get hx)
theorem RW.at_t (h : RW w0 w n m va vb vt is js tl) {x : Nat} {u : Int} (hx : (intsV tl)[x]? = some (.int .i64 u)) : ∃ g c, vt = .slice (some ⟨g, 0, none⟩) n c ∧ w.cell? ⟨g, x, none⟩ = some (.int .i64 u) ∧ w.frozen? ⟨g, x, none⟩ = false ∧ w0.heap.size ≤ g ∧ g < w.heap.size := row_at h.t hx
theorem RW.set_a {g c x : Nat} (h : RW w0 w n m (.slice (some ⟨g, 0, none⟩) n c) vb vt is js tl) :
    RW w0 (w.setCell ⟨g, x, none⟩ (.bool false)) n m (.slice (some ⟨g, 0, none⟩) n c) vb vt (is.filter fun k => decide (k ≠ x)) js tl := by
  have h2 := World.ownsRow.stored h.a x (.bool false)
  rw [bitsL_set] at h2
  exact ⟨h.bel.setCell (h.a.lt g rfl).1 _, Owns.turn (l1 := []) (r' := ⟨4, 1, .slice (some ⟨g, 0, none⟩) n c, n, _⟩) h.own h2.2 h2.1 (.inl rfl)⟩
theorem RW.set_b {g c x : Nat} (h : RW w0 w n m va (.slice (some ⟨g, 0, none⟩) m c) vt is js tl) :
    RW w0 (w.setCell ⟨g, x, none⟩ (.bool false)) n m va (.slice (some ⟨g, 0, none⟩) m c) vt is (js.filter fun k => decide (k ≠ x)) tl := by
  have h2 := World.ownsRow.stored h.b x (.bool false)
  rw [bitsL_set] at h2
  exact ⟨h.bel.setCell (h.b.lt g rfl).1 _, Owns.turn (l1 := [_]) (r' := ⟨4, 1, .slice (some ⟨g, 0, none⟩) m c, m, _⟩) h.own h2.2 h2.1 (.inl rfl)⟩
theorem RW.set_t {g c x : Nat} {u : Int} {tl' : List Int} (h : RW w0 w n m va vb (.slice (some ⟨g, 0, none⟩) n c) is js tl) (he : (intsV tl).set x (.int .i64 u) = intsV tl') :
    RW w0 (w.setCell ⟨g, x, none⟩ (.int .i64 u)) n m va vb (.slice (some ⟨g, 0, none⟩) n c) is js tl' := by
  have h2 := World.ownsRow.stored h.t x (.int .i64 u)
  rw [he] at h2
  exact ⟨h.bel.setCell (h.t.lt g rfl).1 _, Owns.turn (l1 := [_, _]) (r' := ⟨3, 1, .slice (some ⟨g, 0, none⟩) n c, n, _⟩) h.own h2.2 h2.1 (.inl rfl)⟩
end
def isTrue : Option Value → Bool
  | some (.bool true) => true
  | _ => false
def cntV (v : Value) (n : Nat) (w : World) : Nat := match v with
  | .slice (some a) _ _ => ((List.range n).filter fun x => isTrue (w.cell? ⟨a.block, x, none⟩)).length
  | _ => 0
def cnt (n : Nat) (is : List Nat) : Nat := ((List.range n).filter fun x => decide (x ∈ is)).length
theorem cnt_less {n x : Nat} {is : List Nat} (hx : x ∈ is) (hn : x < n) : cnt n (is.filter fun k => decide (k ≠ x)) < cnt n is := by
  unfold cnt
  have e : ((List.range n).filter fun z => decide (z ∈ is.filter fun k => decide (k ≠ x))) = ((List.range n).filter fun z => decide (z ∈ is)).filter fun z => decide (z ≠ x) := by
    rw [List.filter_filter]
    refine List.filter_congr fun z _ => ?_
    by_cases h1 : z ∈ is <;> by_cases h2 : z = x <;> simp [List.mem_filter, h1, h2]
  rw [e]
  exact List.length_filter_lt_length_iff_exists.2 ⟨x, by simp [List.mem_filter, hx, hn], by simp⟩
theorem RW.cnt {w0 w : World} {n m : Nat} {va vb vt : Value} {is js : List Nat} {tl : List Int} (h : RW w0 w n m va vb vt is js tl) : cntV va n w = cnt n is := by
  unfold Go.Proofs.YtcemkikgaeghjaaGreatDoor.cnt
  rcases Nat.eq_zero_or_pos n with rfl | hn
  · cases va <;> simp [cntV]
    rename_i a _ _
    cases a <;> simp []
  · obtain ⟨g, c, rfl, _⟩ := h.at_a hn
    show ((List.range n).filter fun x => isTrue (w.cell? ⟨g, x, none⟩)).length = _
    congr 1
    refine List.filter_congr fun x hx => ?_
    obtain ⟨_, _, e, h2, _⟩ := h.at_a (List.mem_range.1 hx)
    cases e
    rw [h2]
    cases hd : decide (x ∈ is) <;> rfl
end Go.Proofs.YtcemkikgaeghjaaGreatDoor
