/- Walk: the reference's Right. -/
import Derived.Test.YtabiegbbbljhlaaW6
namespace Go.Proofs.Ytabiegbbbljhlaa
open Go.RowKit

set_option maxRecDepth 100000 in
set_option maxHeartbeats 4000000 in
theorem refright_any {A : Option Addr} {n c : Nat} {hs : List HV} {w : World} (hn : n ≤ maxLen) (h : RdH w w.heap.size A n c hs) :
    Calls Try.prog 28 #[.slice A n c] w (BoolBelow (right hs) w) := by
  unfold maxLen at hn
  go_enter Try.func28, Try.ntmps28
  go_wp2
  go_loopw [3] (fun i wr => ∃ k : Nat, k ≤ n ∧ i = .int .i64 k ∧ Below w.heap.size w wr ∧ Hid (∀ j, j < k → okAt hs j = true)) (fun i _ => n - (intOf i).toNat)
  case atStart => exact ⟨0, Nat.zero_le _, rfl, Below.refl _ _, fun j hj => absurd hj (Nat.not_lt_zero _)⟩
  case round =>
    obtain ⟨k, hk, rfl, hb, hj⟩ := hrel
    by_cases hlt : k < n
    · obtain ⟨b0, o0, u, rfl, hbb, hx, hu, h0, h1, h2⟩ := h.get hlt
      have HX := Lib.hid hx; clear hx
      obtain ⟨_, _, ho, hnn, ha0, ha1⟩ := h.parts u hu
      go_wp2
      refine wp_region_q (fun w' => Below w.heap.size w w') (qs 30) mixed (by kernel_rfl) hb.drew ?_
      intro T M Q hT hT' hM hQ
      have m0 : M ⟨b0, o0 + k * 3, none⟩ = some (.int .i64 u.at_) := hM _ _ fun w' hw => (hw.cell (p := ⟨b0, o0 + k * 3, none⟩) hbb).trans h0
      have m1 : M ⟨b0, o0 + k * 3 + 1, none⟩ = some (.slice u.oA u.old.length u.oc) := hM _ _ fun w' hw => (hw.cell (p := ⟨b0, o0 + k * 3 + 1, none⟩) hbb).trans h1
      have m2 : M ⟨b0, o0 + k * 3 + 2, none⟩ = some (.slice u.nA u.new.length u.nc) := hM _ _ fun w' hw => (hw.cell (p := ⟨b0, o0 + k * 3 + 2, none⟩) hbb).trans h2
      clear hM
      simp only [qcmp]
      simp (maxSteps := 5000000) only [↓qpre, qpost, qfacts, qnorm, m0, m1, m2]
      have hbE : Below w.heap.size w wr.drew := hb.drew
      refine ⟨⟨by omega, by omega⟩, gsym_i (fun c1 => ?_) (fun c1 => ⟨⟨by omega, by omega⟩, gsym_i (fun c2 => ?_) (fun c2 => ?_)⟩)⟩
      · refine hQ _ _ ?_
        clear hQ hT hT' m0 m1 m2
        have HF := Lib.hid (right_false (by rw [h.len]; exact hlt) (okAt_bad HX.out (.inl (of_decide_eq_true c1))))
        clear c1
        go_wp2
        go_ret
        exact ⟨ret_bool HF.out.symm, hbE⟩
      · refine hQ _ _ ?_
        clear hQ hT hT' m0 m1 m2
        have HF := Lib.hid (right_false (by rw [h.len]; exact hlt) (okAt_bad HX.out (.inr (.inl (of_decide_eq_true c2)))))
        clear c1 c2
        go_wp2
        go_ret
        exact ⟨ret_bool HF.out.symm, hbE⟩
      · refine ⟨⟨by omega, by omega⟩, ⟨by omega, by omega⟩, ⟨by omega, by omega⟩, hQ _ _ ?_⟩
        clear hQ hT hT' m0 m1 m2
        replace c1 := of_decide_eq_false c1
        replace c2 := of_decide_eq_false c2
        cases c3 : decide (((u.old.length : Int) + (u.new.length : Int)) = 0)
        · have okh := okHd_yes c1 c2 (of_decide_eq_false c3)
          have HB := Lib.hid hbE
          rcases k with - | k
          · have OK := Lib.hid (okAt_first HX.out okh)
            clear okh c1 c2 hbE
            go_wp2
            refine wp_region_q (fun w' => Below w.heap.size w w') (qs 24) mixed (by kernel_rfl) HB.out.drew ?_
            intro T M Q hT hT' hM hQ
            clear hM
            have d1 : decide (0 < ((0 : Nat) : Int)) = false := rfl
            simp only [qcmp]
            simp (maxSteps := 5000000) only [↓qpre, qpost, qnorm, d1]
            refine hQ _ _ ?_
            clear hQ hT hT'
            go_wp2
            go_roundw
            case rel => exact ⟨0 + 1, by omega, by go_num, HB.out.drew, fun j hj' => by obtain rfl : j = 0 := by omega
                                                                                        exact OK.out⟩
            case measure => simp [intOf]; omega
          · obtain ⟨b1, o1, p, hA, hbb1, hx1, hp, g0, g1, g2⟩ := h.get (k := k) (by omega)
            cases hA
            have pr := ok_at (hj.out k (by omega)) hx1
            obtain ⟨_, _, po, pn, pa0, pa1⟩ := h.parts p hp
            have OK := Lib.hid (okAt_next HX.out (by simpa using hx1) (Nat.succ_pos k) okh)
            clear okh hx1 hbE g2
            go_wp2
            refine wp_region_q (fun w' => Below w.heap.size w w') (qs 24) mixed (by kernel_rfl) HB.out.drew ?_
            intro T M Q hT hT' hM hQ
            have m0 : M ⟨b0, o0 + (k + 1) * 3, none⟩ = some (.int .i64 u.at_) := hM _ _ fun w' hw => (hw.cell (p := ⟨b0, o0 + (k + 1) * 3, none⟩) hbb).trans h0
            have m1 : M ⟨b0, o0 + k * 3, none⟩ = some (.int .i64 p.at_) := hM _ _ fun w' hw => (hw.cell (p := ⟨b0, o0 + k * 3, none⟩) hbb).trans g0
            have m2 : M ⟨b0, o0 + k * 3 + 1, none⟩ = some (.slice p.oA p.old.length p.oc) := hM _ _ fun w' hw => (hw.cell (p := ⟨b0, o0 + k * 3 + 1, none⟩) hbb).trans g1
            clear hM
            have e0 : ((k : Int) + 1).toNat = k + 1 := by omega
            have e1 : ((k : Int) + 1 - 1).toNat = k := by omega
            have d1 : decide (0 < (k : Int) + 1) = true := decide_eq_true (by omega)
            simp only [qcmp]
            simp (maxSteps := 5000000) only [↓qpre, qpost, qfacts, qnorm, m0, m1, m2, e0, e1, d1]
            refine ⟨⟨by omega, by omega⟩, ⟨by omega, by omega⟩, ⟨by omega, by omega⟩, ⟨by omega, by omega⟩, ⟨by omega, by omega⟩, ⟨by omega, by omega⟩, hQ _ _ ?_⟩
            clear hQ hT hT' m0 m1 m2 e0 e1 d1 g0 g1 h0 h1 h2
            cases hd : decide (u.at_ < p.at_ + (p.old.length : Int))
            · have hd' := of_decide_eq_false hd
              have OK2 := Lib.hid (show okAt hs (k + 1) = true from by rw [OK.out, decide_eq_false (by omega)]; rfl)
              clear hd hd' c1 c2 pr
              go_wp2
              go_roundw
              case rel => exact ⟨k + 1 + 1, by omega, by go_num, HB.out.drew, upto_succ hj.out OK2.out⟩
              case measure => simp [intOf]; omega
            · have hd' := of_decide_eq_true hd
              have OK2 := Lib.hid (right_false (by rw [h.len]; exact hlt) (show okAt hs (k + 1) = false from by rw [OK.out, decide_eq_true (by omega)]; rfl))
              clear hd hd' c1 c2 pr
              go_wp2
              go_ret
              exact ⟨ret_bool OK2.out.symm, HB.out.drew⟩
        · have HF := Lib.hid (right_false (by rw [h.len]; exact hlt) (okAt_bad HX.out (.inr (.inr (of_decide_eq_true c3)))))
          clear c1 c2
          go_wp2
          go_ret
          exact ⟨ret_bool HF.out.symm, hbE⟩
    · have HF := Lib.hid (right_true (fun j hj' => hj.out j (by rw [h.len] at hj'; omega)))
      go_wp2
      go_ret
      exact ⟨ret_bool HF.out.symm, hb⟩
end Go.Proofs.Ytabiegbbbljhlaa
