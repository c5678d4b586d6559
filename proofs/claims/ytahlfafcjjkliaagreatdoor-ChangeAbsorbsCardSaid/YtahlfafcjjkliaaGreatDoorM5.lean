/- Plain facts of TreeClashes. -/
import Derived.Test.YtahlfafcjjkliaaGreatDoorM4
namespace Go.Proofs.YtahlfafcjjkliaaGreatDoor
open Go.RowKit

theorem parts_app (b : Bs) : ∀ a : Bs, parts (a ++ 47 :: b) = parts a ++ parts b
  | [] => by simp [parts]
  | c :: a => by
    rw [List.cons_append, parts, parts_app b a]
    conv => rhs; rw [parts]
    split
    · simp
    · cases h : parts a with
      | nil => exact absurd h (parts_ne a)
      | cons x t => simp
theorem pathOk_front {a b : Bs} (h : pathOk (a ++ 47 :: b) = true) : pathOk a = true := by
  simp only [pathOk, parts_app, Bool.and_eq_true, decide_eq_true_eq, List.all_append, List.length_append, List.length_cons] at h ⊢
  obtain ⟨⟨⟨h1, h2⟩, h3⟩, h4⟩ := h
  refine ⟨⟨⟨?_, by omega⟩, h3.1⟩, h4.1⟩
  cases a with
  | nil => simp [parts, partOk] at h4
  | cons c a => simp
theorem put_nil {f : FV} (ht : f.text.size ≤ 20000) : putF [] f = if pathOk f.p = true then ([f], 0) else ([], 11) := by
  by_cases h : pathOk f.p = true
  · rw [if_pos h, put_one ⟨h, ht⟩]
  · rw [if_neg h, putF, if_neg (by rw [treeOk_nil]; decide), if_pos (by simpa using h)]
theorem put_clash {g f : FV} (hg : FileOk g) (ht : f.text.size ≤ 20000) (hne : g.path ≠ f.path) (hc : clashP g.p f.p = true) : putF [g] f = ([], 11) := by
  rw [putF, if_neg (by rw [treeOk_one hg]; decide)]
  split
  · rfl
  · rw [if_neg (by omega), if_neg (by simp [hasP, hne]), if_pos]
    have hc2 : clashP g.p f.path.data.toList = true := hc
    simp [clashF, hne, hc2]
theorem within_front (a b : Bs) : within (a ++ 47 :: b) a = true := within_iff.2 ⟨b, rfl⟩
theorem apply_swap {inn p t : ByteArray} {fI : FV} (hI : FileOk fI) (e : fI.path = inn) (hp : pathOk p.data.toList = true) (ht : t.size ≤ 20000) :
    applyF [fI] [⟨inn, true, false, ⟨#[]⟩⟩, ⟨p, false, false, t⟩] = ([⟨p, false, t⟩], 0) := by
  have h1 : applyOne [fI] ⟨inn, true, false, ⟨#[]⟩⟩ = ([], 0) := by
    rw [applyOne, if_pos rfl, dropF_ok (treeOk_one hI) (hasP_iff.2 ⟨fI, by simp, e⟩)]
    simp [without, e]
  have h2 : applyOne [] ⟨p, false, false, t⟩ = ([⟨p, false, t⟩], 0) := by
    rw [applyOne, if_neg Bool.false_ne_true]
    exact put_one ⟨hp, ht⟩
  rw [applyF, if_neg (by rw [treeOk_one hI]; decide), if_neg (by simp)]
  rw [applyGo, h1, if_pos rfl, applyGo, h2, if_pos rfl, applyGo]
set_option maxRecDepth 100000 in
theorem run_fileText (w : World) (p t : ByteArray) : (Instr.build 35 #[(0, .string p), (2, .string t)]).run Tryz.prog w = .ok (.agg #[.string p, .bool false, .string t]) w := by
  go_simp
set_option maxRecDepth 100000 in
theorem run_fileName (w : World) (p : ByteArray) : (Instr.build 35 #[(0, .string p)]).run Tryz.prog w = .ok (.agg #[.string p, .bool false, .string ⟨#[]⟩]) w := by
  go_simp
set_option maxRecDepth 100000 in
theorem run_chgText (w : World) (p t : ByteArray) : (Instr.build 29 #[(0, .string p), (3, .string t)]).run Tryz.prog w = .ok (.agg #[.string p, .bool false, .bool false, .string t]) w := by
  go_simp
theorem rdC_two (w : World) (x y : ChV) (hx : x.path.size ≤ 140737488351232 ∧ x.text.size ≤ 140737488351232) (hy : y.path.size ≤ 140737488351232 ∧ y.text.size ≤ 140737488351232) :
    RdC (w.alloc (.cells #[.string x.path, .bool x.del, .bool x.exec, .string x.text, .string y.path, .bool y.del, .bool y.exec, .string y.text] 29)) (w.alloc (.cells #[.string x.path, .bool x.del, .bool x.exec, .string x.text, .string y.path, .bool y.del, .bool y.exec, .string y.text] 29)).heap.size (some ⟨w.heap.size, 0, none⟩) 2 2 [x, y] :=
  ⟨⟨rfl, Nat.le_refl _, fun _ => ⟨_, 0, rfl, by simp, fun j u hu => by
    rw [Nat.zero_add, World.cell?, heap_alloc_new]
    simpa [ChV.cells] using hu⟩⟩, rfl, fun f hf => by
      simp only [List.mem_cons, List.mem_nil_iff, or_false] at hf
      rcases hf with rfl | rfl
      · exact hx
      · exact hy⟩
end Go.Proofs.YtahlfafcjjkliaaGreatDoor
