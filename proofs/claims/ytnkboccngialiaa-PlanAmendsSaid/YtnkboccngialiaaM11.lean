/- Walks: awake. -/
import Derived.Test.YtnkboccngialiaaM10
namespace Go.Proofs.Ytnkboccngialiaa
open Go.RowKit

theorem rd_cells {w : World} {g sz n : Nat} {cs : Array Value} {t : TypeId} {fr : Nat × Nat} {xs : List Value} (hg : w.heap[g]? = some (.cells cs t fr)) (hcs : cs.toList = xs) (hn : xs.length = n * sz) :
    Rd w w.heap.size sz (some ⟨g, 0, none⟩) n n xs :=
  ⟨hn, Nat.le_refl _, fun _ => ⟨g, 0, rfl, (Array.getElem?_eq_some_iff.1 hg).1, fun j u hu => by
    rw [Nat.zero_add, cell_of_row _ _ _ _ _ _ hg, ← Array.getElem?_toList, hcs]; exact hu⟩⟩

/-- The markers of awake. -/
def mk0 (g : Nat) : List MV := [⟨0, some ⟨g, 0, none⟩, 2, [1, 2]⟩, ⟨1, none, 0, []⟩]
theorem mk0_right (g : Nat) : rightM 3 (mk0 g) = true := by simp [rightM, mk0, okM]
theorem mk0_few (g : Nat) : fewM (mk0 g) = true := by simp [fewM, mk0]
theorem mk0_obs (g : Nat) : obs (mk0 g) 0 = true := by simp [obs, mk0]
theorem mk0_nexts (g : Nat) (k x : Int) : x ∈ nexts (mk0 g) k ↔ k = 0 ∧ (x = 1 ∨ x = 2) := by
  rw [show nexts (mk0 g) k = if 0 = k then [1, 2] else [] by simp [nexts, mk0]]
  by_cases h : k = 0
  · subst h; simp
  · rw [if_neg (fun e => h e.symm)]; simp [h]
theorem mk0_next {g : Nat} {l : List Int} (h : NextIs (mk0 g) 0 l) : l = [1, 2] :=
  h.uniq ⟨by simp, fun x => by rw [mk0_nexts]; simp⟩
theorem mk0_final {g : Nat} {l : List Int} (h : FinalIs (mk0 g) 0 l) : l = [2] := by
  refine h.uniq ⟨by simp, fun x => ?_⟩
  have h0 : Reach (mk0 g) 0 0 := .refl
  rw [reach_iff (S := fun x => x = 0 ∨ x = 1 ∨ x = 2) (.inl rfl) (fun x hx => by
    rcases hx with rfl | rfl | rfl
    · exact h0
    · exact .step h0 ((mk0_nexts g 0 1).2 ⟨rfl, .inl rfl⟩) (by omega)
    · exact .step h0 ((mk0_nexts g 0 2).2 ⟨rfl, .inr rfl⟩) (by omega)) (fun k x hk hx _ => by
    have := (mk0_nexts g k x).1 hx; omega)]
  simp only [List.mem_singleton]
  constructor
  · rintro rfl; exact ⟨.inr (.inr rfl), by simp [obs, mk0]⟩
  · rintro ⟨rfl | rfl | rfl, ho⟩
    · rw [mk0_obs] at ho; cases ho
    · simp [obs, mk0] at ho
    · rfl

set_option maxRecDepth 100000 in
set_option maxHeartbeats 8000000 in
theorem awake_any (w : World) : Calls Try.prog 11 #[] w (BoolBelow true w) := by
  go_enter Try.func11, Try.ntmps11
  go_wp2_with fail
  have h0 : RdM ((w.alloc (.cells #[.int .i64 1, .int .i64 2] 3)).alloc (.cells #[.int .i64 0, .slice (some ⟨w.heap.size, 0, none⟩) 2 2, .int .i64 1, .slice none 0 0] 35))
      ((w.alloc (.cells #[.int .i64 1, .int .i64 2] 3)).alloc (.cells #[.int .i64 0, .slice (some ⟨w.heap.size, 0, none⟩) 2 2, .int .i64 1, .slice none 0 0] 35)).heap.size (some ⟨w.heap.size + 1, 0, none⟩) 2 2 (mk0 w.heap.size) := by
    have hg := heap_alloc_new (w.alloc (.cells #[.int .i64 1, .int .i64 2] 3)) (.cells #[.int .i64 0, .slice (some ⟨w.heap.size, 0, none⟩) 2 2, .int .i64 1, .slice none 0 0] 35)
    rw [show (w.alloc (.cells #[.int .i64 1, .int .i64 2] 3)).heap.size = w.heap.size + 1 by simp] at hg
    refine ⟨rd_cells hg rfl rfl, rfl, ?_⟩
    intro m hm
    simp only [mk0, List.mem_cons, List.not_mem_nil, or_false] at hm
    rcases hm with rfl | rfl
    · refine ⟨?_, by simp, by simp [I64], by simp [I64]⟩
      have := rd_cells (w := w.alloc (.cells #[.int .i64 1, .int .i64 2] 3)) (sz := 1) (n := 2) (heap_alloc_new w (.cells #[.int .i64 1, .int .i64 2] 3)) rfl rfl
      exact this.to ((Below.refl _ _).alloc (Nat.le_refl _) _) (by simp)
    · exact ⟨Rd.none_ _ _ _, by simp, by simp [I64], by simp⟩
  have hbw : Below w.heap.size w ((w.alloc (.cells #[.int .i64 1, .int .i64 2] 3)).alloc (.cells #[.int .i64 0, .slice (some ⟨w.heap.size, 0, none⟩) 2 2, .int .i64 1, .slice none 0 0] 35)) := ((Below.refl _ w).alloc (Nat.le_refl _) _).alloc (by simp) _
  generalize (w.alloc (.cells #[.int .i64 1, .int .i64 2] 3)).alloc (.cells #[.int .i64 0, .slice (some ⟨w.heap.size, 0, none⟩) 2 2, .int .i64 1, .slice none 0 0] 35) = w0 at *
  have hm2 : (2 : Nat) ≤ maxLen := by decide
  have C1 := right_any (N := 3) hm2 h0
  rw [mk0_right] at C1
  refine C1.mono ?_
  rintro e w1 ⟨rfl, hb1⟩
  have h1 := h0.to hb1 hb1.size
  have C2 := obsolete_any (x := 0) hm2 h1
  rw [mk0_obs] at C2
  clear C1
  go_wp2_with fail
  refine C2.mono ?_
  rintro e w2 ⟨rfl, hb2⟩
  have h2 := h1.to hb2 hb2.size
  clear C2
  go_wp2_with fail
  refine (final_any hm2 h2 (mk0_few _) (by simp [I64])).mono ?_
  rintro e w3 ⟨A3, c3, l3, rfl, hr3, hb3, hf3⟩
  obtain rfl := mk0_final hf3
  have hb3' := (Below.refl w3.heap.size w3).alloc (Nat.le_refl _) (.cells #[.int .i64 2] 3)
  have C4 := plainI_any (xs := [2]) (ys := [2]) (by decide) (by decide) (Nat.le_refl _) (hr3.to hb3' hb3'.size) (rd_lit1 w3 2)
  rw [decide_eq_true rfl] at C4
  go_wp2_with fail
  refine C4.mono ?_
  rintro e w4 ⟨rfl, hb4⟩
  have hb24 := hb3.trans ((hb3'.trans (hb4.mono hb3'.size)).mono hb3.size)
  have h4 := h2.to hb24 hb24.size
  clear C4
  go_wp2_with fail
  refine (next_any (x := 0) hm2 h4 (mk0_few _)).mono ?_
  rintro e w5 ⟨A5, c5, l5, rfl, hr5, hb5, hn5, _⟩
  obtain rfl := mk0_next hn5
  have hb5' := (Below.refl w5.heap.size w5).alloc (Nat.le_refl _) (.cells #[.int .i64 1, .int .i64 2] 3)
  have C6 := plainI_any (xs := [1, 2]) (ys := [1, 2]) (by decide) (by decide) (Nat.le_refl _) (hr5.to hb5' hb5'.size) (rd_cells (sz := 1) (n := 2) (heap_alloc_new w5 (.cells #[.int .i64 1, .int .i64 2] 3)) rfl rfl)
  rw [decide_eq_true rfl] at C6
  go_wp2_with fail
  refine C6.mono ?_
  rintro e w6 ⟨rfl, hb6⟩
  have hbE := hb24.trans ((hb5.trans ((hb5'.trans (hb6.mono hb5'.size)).mono hb5.size)).mono hb24.size)
  have hbA := hbw.trans ((hb1.trans ((hb2.trans (hbE.mono hb2.size)).mono hb1.size)).mono hbw.size)
  clear C6
  go_wp2
  go_ret
  exact ⟨rfl, hbA⟩
end Go.Proofs.Ytnkboccngialiaa
