/- Walks: marker.Right, the document's Markers. -/
import Derived.Test.YtnkboccngialiaaM2
namespace Go.Proofs.Ytnkboccngialiaa
open Go.RowKit

theorem rightM_no {n : Int} {ms : List MV} {m : MV} (hm : m ∈ ms) (h : okM n m = false) : rightM n ms = false := by
  unfold rightM; rw [List.all_eq_false]; exact ⟨m, hm, by simp [h]⟩
theorem rightM_step {n : Int} {ms : List MV} {m : MV} {k : Nat} (hx : ms[k]? = some m) (hj : rightM n (ms.take k) = true) (h : okM n m = true) : rightM n (ms.take (k + 1)) = true := by
  rw [List.take_add_one, hx, Option.toList_some, rightM_snoc, hj, h]; rfl

set_option maxRecDepth 100000 in
set_option maxHeartbeats 4000000 in
theorem right_any {A : Option Addr} {n c : Nat} {ms : List MV} {N : Int} {w : World} (hn : n ≤ maxLen) (h : RdM w w.heap.size A n c ms) :
    Calls Try.prog 12 #[.int .i64 N, .slice A n c] w (BoolBelow (rightM N ms) w) := by
  unfold maxLen at hn
  have HL := Lib.hid h.len
  have hb0 : Below w.heap.size w (w.alloc (.cells #[.int .i64 N] 3)) := (Below.refl _ _).alloc (Nat.le_refl _) _
  have hgN : (w.alloc (.cells #[.int .i64 N] 3)).cell? ⟨w.heap.size, 0, none⟩ = some (.int .i64 N) := (cell_of_row _ _ _ _ _ _ (heap_alloc_new _ _)).trans rfl
  have hlN : w.heap.size < (w.alloc (.cells #[.int .i64 N] 3)).heap.size := by simp
  have h' := h.to hb0 hb0.size
  clear h
  generalize hW : w.alloc (.cells #[.int .i64 N] 3) = W at *
  have HW := Lib.hid hW
  clear hW
  go_enter Try.func12, Try.ntmps12
  go_wp2
  rw [HW.out]
  go_loopw [9] (fun i wr => ∃ k : Nat, k ≤ n ∧ i = .int .i64 k ∧ Below W.heap.size W wr ∧ Hid (rightM N (ms.take k) = true)) (fun i _ => n - (intOf i).toNat)
  case atStart => exact ⟨0, Nat.zero_le _, rfl, Below.refl _ _, by rw [List.take_zero]; rfl⟩
  case round =>
    obtain ⟨k, hk, rfl, hb, hj⟩ := hrel
    by_cases hlt : k < n
    · obtain ⟨b0, o0, u, rfl, hbb, hx, hu, h0, h1⟩ := h'.get hlt
      replace h0 := (hb.cell hbb).trans h0
      replace h1 := (hb.cell hbb).trans h1
      have HX := Lib.hid hx; clear hx
      have hN := (hb.cell (p := ⟨w.heap.size, 0, none⟩) hlN).trans hgN
      obtain ⟨hrd, hnl, _, _⟩ := h'.parts u hu
      have hbE := hb.alloc hb.size (.cells #[.int .i64 u.old, .slice u.A u.new.length u.c] 35)
      have hNE := (hbE.cell (p := ⟨w.heap.size, 0, none⟩) hlN).trans hgN
      have hOE : (wr.alloc (.cells #[.int .i64 u.old, .slice u.A u.new.length u.c] 35)).cell? ⟨wr.heap.size, 0, none⟩ = some (.int .i64 u.old) := (cell_of_row _ _ _ _ _ _ (heap_alloc_new _ _)).trans rfl
      have hbw := hb0.trans (hbE.mono hb0.size)
      by_cases c1 : u.old < 0
      · go_wp2
        go_ret
        exact ⟨ret_bool (rightM_no hu (by rw [okM_iff]; simp [c1])).symm, hbw⟩
      · by_cases c2 : N ≤ u.old
        · go_wp2
          go_ret
          exact ⟨ret_bool (rightM_no hu (by rw [okM_iff]; simp [c2])).symm, hbw⟩
        · by_cases c3 : 2000 < (u.new.length : Int)
          · go_wp2
            go_ret
            exact ⟨ret_bool (rightM_no hu (by rw [okM_iff]; simp [c3])).symm, hbw⟩
          · have hcall := rightCont_any (o := u.old) (n := N) (g := wr.heap.size) (k := w.heap.size) (by unfold maxLen; omega) (hrd.to hbE hbE.size) hOE hNE (by simp) (Nat.lt_of_lt_of_le hlN hbE.size)
            cases c4 : u.new.any (badI u.old N) with
            | true =>
              rw [c4] at hcall
              go_wp2_with (go_at_call 35; refine hcall.mono ?_; rintro e w' ⟨rfl, hb'⟩)
              go_ret
              exact ⟨ret_bool (rightM_no hu (by rw [okM_iff, c4]; simp)).symm, hbw.trans (hb'.mono hbw.size)⟩
            | false =>
              rw [c4] at hcall
              go_wp2_with (go_at_call 35; refine hcall.mono ?_; rintro e w' ⟨rfl, hb'⟩)
              go_roundw
              case rel =>
                refine ⟨k + 1, by omega, by go_num, hbE.trans (hb'.mono hbE.size), ?_⟩
                exact rightM_step HX.out hj.out (by rw [okM_iff, c4]; simp; omega)
              case measure => simp [intOf]; omega
    · have hkn : k = n := by omega
      subst hkn
      go_wp2
      go_ret
      refine ⟨ret_bool ?_, hb0.trans (hb.mono hb0.size)⟩
      have := hj.out
      rw [List.take_of_length_le (by rw [HL.out]; omega)] at this
      exact this.symm

set_option maxRecDepth 100000 in
set_option maxHeartbeats 4000000 in
theorem rright_any {A : Option Addr} {n c : Nat} {ms : List MV} {N : Int} {w : World} (hn : n ≤ maxLen) (h : RdM w w.heap.size A n c ms) :
    Calls Try.prog 13 #[.int .i64 N, .slice A n c] w (BoolBelow (rightM N ms) w) := by
  unfold maxLen at hn
  have HL := Lib.hid h.len
  go_enter Try.func13, Try.ntmps13
  go_wp2
  go_loopw [5, 6] (fun i _ wr => ∃ k : Nat, k ≤ n ∧ i = .int .i64 k ∧ Below w.heap.size w wr ∧ Hid (rightM N (ms.take k) = true)) (fun i _ _ => n - (intOf i).toNat)
  case atStart => exact ⟨0, Nat.zero_le _, rfl, Below.refl _ _, by rw [List.take_zero]; rfl⟩
  case round =>
    obtain ⟨k, hk, rfl, hb, hj⟩ := hrel
    by_cases hlt : k < n
    · obtain ⟨b0, o0, u, rfl, hbb, hx, hu, h0, h1⟩ := h.get hlt
      have h00 := h0; have h10 := h1
      replace h0 := (hb.cell hbb).trans h0
      replace h1 := (hb.cell hbb).trans h1
      have HX := Lib.hid hx; clear hx
      obtain ⟨hrd, hnl, _, _⟩ := h.parts u hu
      by_cases c1 : u.old < 0
      · go_wp2
        go_ret
        exact ⟨ret_bool (rightM_no hu (by rw [okM_iff]; simp [c1])).symm, hb⟩
      · by_cases c2 : N ≤ u.old
        · go_wp2
          go_ret
          exact ⟨ret_bool (rightM_no hu (by rw [okM_iff]; simp [c2])).symm, hb⟩
        · by_cases c3 : 2000 < (u.new.length : Int)
          · go_wp2
            go_ret
            exact ⟨ret_bool (rightM_no hu (by rw [okM_iff]; simp [c3])).symm, hb⟩
          · go_wp2
            go_loopw [6] (fun i wr => ∃ j : Nat, j ≤ u.new.length ∧ i = .int .i64 j ∧ Below w.heap.size w wr ∧ Hid ((u.new.take j).any (badI u.old N) = false)) (fun i _ => u.new.length - (intOf i).toNat)
            case atStart => exact ⟨0, Nat.zero_le _, rfl, hb, by rw [List.take_zero]; rfl⟩
            case round =>
              obtain ⟨j, hjl, rfl, hb2, hj2⟩ := hrel
              replace h0 := (hb2.cell hbb).trans h00
              replace h1 := (hb2.cell hbb).trans h10
              by_cases hlt2 : j < u.new.length
              · obtain ⟨b1, o1, x, eA, hb1, hx2, g0⟩ := hrd.int_ hlt2
                rw [eA] at h1
                have HX2 := Lib.hid hx2; clear hx2
                go_wp2
                refine wp_region_q (fun w' => Below w.heap.size w w') (qs 26) mixed (by kernel_rfl) hb2.drew (fun T M Q hT hT' hM hQ => ?_)
                have m0 : M ⟨b0, o0 + k * 2, none⟩ = some (.int .i64 u.old) := hM _ _ fun w' hw => (hw.cell (p := ⟨b0, o0 + k * 2, none⟩) hbb).trans h00
                have m1 : M ⟨b0, o0 + k * 2 + 1, none⟩ = some (.slice (some ⟨b1, o1, none⟩) u.new.length u.c) := hM _ _ fun w' hw => (hw.cell (p := ⟨b0, o0 + k * 2 + 1, none⟩) hbb).trans (h10.trans (by rw [eA]))
                have m2 : M ⟨b1, o1 + j, none⟩ = some (.int .i64 x) := hM _ _ fun w' hw => (hw.cell (p := ⟨b1, o1 + j, none⟩) hb1).trans g0
                simp only [qcmp, Nat.reduceBEq]
                simp (maxSteps := 5000000) only [↓qpre, qpost, qfacts, qnorm, m0, m1, m2]
                have hbd := hb2.drew
                clear hT hT' hM m0 m1 m2
                refine ⟨⟨by omega, by omega⟩, ⟨by omega, by omega⟩, ⟨by omega, by omega⟩, gsym_i (fun d1 => hQ _ _ ?_) (fun d1 => ⟨⟨by omega, by omega⟩, ⟨by omega, by omega⟩, hQ _ _ ?_⟩)⟩
                · clear hQ
                  go_wp2
                  go_ret
                  refine ⟨ret_bool (rightM_no hu ?_).symm, hbd⟩
                  rw [okM_iff, List.any_eq_true.2 ⟨x, List.mem_of_getElem? HX2.out, by rw [badI, d1]; rfl⟩]; simp
                · clear hQ
                  cases hd : decide (N ≤ x) with
                  | true =>
                    go_wp2
                    go_ret
                    refine ⟨ret_bool (rightM_no hu ?_).symm, hbd⟩
                    rw [okM_iff, List.any_eq_true.2 ⟨x, List.mem_of_getElem? HX2.out, by rw [badI, hd, Bool.or_true]⟩]; simp
                  | false =>
                    go_wp2
                    go_roundw
                    case rel =>
                      refine ⟨j + 1, by omega, by go_num, hbd, ?_⟩
                      show (u.new.take (j + 1)).any (badI u.old N) = false
                      rw [List.take_add_one, HX2.out, Option.toList_some, List.any_append, hj2.out]; simp [badI, d1, hd]
                    case measure => simp [intOf]; omega
              · have hkn : j = u.new.length := by omega
                go_wp2
                go_roundw
                case rel =>
                  refine ⟨k + 1, by omega, by go_num, hb2, ?_⟩
                  have := hj2.out
                  rw [List.take_of_length_le (by omega)] at this
                  exact rightM_step HX.out hj.out (by rw [okM_iff, this]; simp; omega)
                case measure => simp [intOf]; omega
    · have hkn : k = n := by omega
      subst hkn
      go_wp2
      go_ret
      refine ⟨ret_bool ?_, hb⟩
      have := hj.out
      rw [List.take_of_length_le (by rw [HL.out]; omega)] at this
      exact this.symm
end Go.Proofs.Ytnkboccngialiaa
