/- Walk: the law's few; the reference's Invert. -/
import Derived.Test.YtabiegbbbljhlaaW13
import Derived.Test.YtabiegbbbljhlaaW15
namespace Go.Proofs.Ytabiegbbbljhlaa
open Go.RowKit

def fewH (u : HV) : Bool := decide (u.old.length ≤ 30) && decide (u.new.length ≤ 30)
def fewB (hs : List HV) : Bool := hs.all fewH && decide (hs.length ≤ 30)
theorem few_says {hs : List HV} (h : fewB hs = true) : hs.length ≤ 30 ∧ ∀ u ∈ hs, u.old.length ≤ 30 ∧ u.new.length ≤ 30 := by
  simp only [fewB, fewH, Bool.and_eq_true, decide_eq_true_eq, List.all_eq_true] at h
  exact ⟨h.2, h.1⟩
theorem few_no {hs : List HV} {k : Nat} {u : HV} (hu : hs[k]? = some u) (h : 30 < u.old.length ∨ 30 < u.new.length) : fewB hs = false := by
  have : hs.all fewH = false := by
    rw [List.all_eq_false]
    refine ⟨u, List.mem_of_getElem? hu, ?_⟩
    simp only [fewH, Bool.and_eq_true, decide_eq_true_eq]
    omega
  simp [fewB, this]
theorem few_all {hs : List HV} (h : ∀ j, j < hs.length → ∀ u, hs[j]? = some u → u.old.length ≤ 30 ∧ u.new.length ≤ 30) : fewB hs = decide (hs.length ≤ 30) := by
  have : hs.all fewH = true := by
    rw [List.all_eq_true]
    intro u hu
    obtain ⟨j, hj, rfl⟩ := List.getElem_of_mem hu
    obtain ⟨h1, h2⟩ := h j hj _ (List.getElem?_eq_getElem hj)
    simp only [fewH, Bool.and_eq_true, decide_eq_true_eq]
    exact ⟨h1, h2⟩
  simp [fewB, this]

set_option maxRecDepth 100000 in
set_option maxHeartbeats 4000000 in
theorem few_any {A : Option Addr} {n c : Nat} {hs : List HV} {w : World} (hn : n ≤ maxLen) (h : RdH w w.heap.size A n c hs) :
    Calls Try.prog 20 #[.slice A n c] w (fun e w' => e = .returned (.bool (fewB hs)) ∧ w' = w) := by
  unfold maxLen at hn
  go_enter Try.func20, Try.ntmps20
  go_wp2
  go_loopw [3] (fun i wr => w = wr ∧ ∃ k : Nat, k ≤ n ∧ i = .int .i64 k ∧ Hid (∀ j, j < k → ∀ u, hs[j]? = some u → u.old.length ≤ 30 ∧ u.new.length ≤ 30)) (fun i _ => n - (intOf i).toNat)
  case atStart => exact ⟨rfl, 0, Nat.zero_le _, rfl, fun j hj => absurd hj (Nat.not_lt_zero _)⟩
  case round =>
    obtain ⟨rfl, k, hk, rfl, hj⟩ := hrel
    by_cases hlt : k < n
    · obtain ⟨b0, o0, u, rfl, hbb, hx, hu, h0, h1, h2⟩ := h.get hlt
      have HX := Lib.hid hx; clear hx
      by_cases c1 : 30 < u.old.length
      · have HF := Lib.hid (few_no HX.out (.inl c1))
        go_wp2
        go_ret
        exact ⟨ret_bool HF.out.symm, rfl⟩
      · by_cases c2 : 30 < u.new.length
        · have HF := Lib.hid (few_no HX.out (.inr c2))
          go_wp2
          go_ret
          exact ⟨ret_bool HF.out.symm, rfl⟩
        · go_wp2
          go_roundw
          case rel =>
            refine ⟨trivial, k + 1, by omega, by go_num, fun j hj' v hv => ?_⟩
            rcases Nat.lt_or_ge j k with hl | hl
            · exact hj.out j hl v hv
            · obtain rfl : j = k := by omega
              rw [HX.out] at hv
              obtain rfl := Option.some.inj hv
              omega
          case measure => simp [intOf]; omega
    · have HF := Lib.hid (few_all (hs := hs) (fun j hj' => hj.out j (by rw [h.len] at hj'; omega)))
      have HL := Lib.hid h.len
      go_wp2
      go_ret
      refine ⟨ret_bool ?_, rfl⟩
      rw [HF.out, HL.out]
      simp
      omega

set_option maxRecDepth 100000 in
set_option maxHeartbeats 8000000 in
theorem refinvert_any {A : Option Addr} {n c : Nat} {hs : List HV} {w : World} (hn : n ≤ 1048576) (h : RdH w w.heap.size A n c hs) (hl : ∀ u ∈ hs, u.old.length ≤ 1048576 ∧ u.new.length ≤ 1048576) :
    Calls Try.prog 30 #[.slice A n c] w (HunksBelow (inv hs) w) := by
  have HL := Lib.hid h.len
  have C := refright_any (w := w) (by simp only [maxLen]; omega) h
  cases hR : right hs
  · rw [hR] at C
    go_enter Try.func30, Try.ntmps30
    go_wp2_with fail
    refine C.mono ?_
    clear C
    rintro e w1 ⟨rfl, hb1⟩
    go_wp2
    go_ret
    exact ⟨none, 0, 0, [], rfl, ⟨Rd.none_ _ _ _, rfl, by simp⟩, by simp [inv, hR], hb1⟩
  · rw [hR] at C
    have HI := Lib.hid (show inv hs = invL 0 (hs.map HV.pure) by simp [inv, hR])
    rw [HI.out]
    go_enter Try.func30, Try.ntmps30
    go_wp2_with fail
    refine C.mono ?_
    clear C
    rintro e w1 ⟨rfl, hb1⟩
    have HW1 := Lib.hid hb1
    clear hb1
    go_wp2
    go_loopw [3, 4, 5] (fun out m i wr => ∃ (k : Nat) (gs : List HV), k ≤ n ∧ m = .int .i64 (gain ((hs.take k).map HV.pure)) ∧ i = .int .i64 k ∧ Below w.heap.size w wr ∧ Hid (HB wr w.heap.size out gs) ∧ Hid (gs.map HV.pure = invL 0 ((hs.take k).map HV.pure)))
      (fun _ _ i _ => n - (intOf i).toNat)
    case atStart => exact ⟨0, [], Nat.zero_le _, rfl, rfl, HW1.out, HB.nil _ _, rfl⟩
    case round =>
      clear HW1
      obtain ⟨k, gs, hk, rfl, rfl, hbw, HO, HP⟩ := hrel
      have hws := hbw.size
      have HW := Lib.hid hbw
      clear hbw
      by_cases hlt : k < n
      · obtain ⟨b0, o0, u, rfl, hb0, hx, hu, h0, h1, h2⟩ := h.get hlt
        obtain ⟨i1, i2⟩ := inv_succ hx
        have HI1 := Lib.hid i1
        have HI2 := Lib.hid i2
        have hok := ok_at (right_at hR (k := k) (by rw [HL.out]; exact hlt)) hx
        obtain ⟨g1, g2⟩ := gain_le (hs := hs.take k) (b := 1048576) (fun v hv => hl v (List.mem_of_mem_take hv))
        have hg3 : (hs.take k).length * 1048576 ≤ 1048576 * 1048576 := Nat.mul_le_mul_right _ (by rw [List.length_take]; omega)
        obtain ⟨x1, x2, _, _, _, _⟩ := h.parts u hu
        obtain ⟨ul1, ul2⟩ := hl u hu
        generalize hgg : gain ((hs.take k).map HV.pure) = g0 at *
        have h63 : gs.length ≤ 1048576 := by
          have e1 := congrArg List.length HP.out
          rw [List.length_map, invL_len, List.length_map, List.length_take] at e1
          omega
        have hgg1 : -1099511627776 ≤ g0 ∧ g0 ≤ 1099511627776 := by omega
        clear i1 i2 hx g1 g2 hg3 hgg
        go_wp2
        refine wp_region_q (fun w' => Below w.heap.size w w') [(true, 0), (true, 1), (true, 2), (true, 3), (true, 4), (true, 5), (true, 6), (true, 7), (true, 8), (true, 9), (true, 10), (true, 11), (true, 12), (true, 14), (true, 15), (true, 16), (true, 17), (true, 18), (false, 13), (false, 19), (false, 20), (false, 21), (false, 22), (true, 23)] mixed (by kernel_rfl) HW.out.drew ?_
        intro T M Q hT hT' hM hQ
        have m0 : M ⟨b0, o0 + k * 3, none⟩ = some (.int .i64 u.at_) := hM _ _ fun w' hw => (hw.cell (p := ⟨b0, o0 + k * 3, none⟩) hb0).trans h0
        have m1 : M ⟨b0, o0 + k * 3 + 1, none⟩ = some (.slice u.oA u.old.length u.oc) := hM _ _ fun w' hw => (hw.cell (p := ⟨b0, o0 + k * 3 + 1, none⟩) hb0).trans h1
        have m2 : M ⟨b0, o0 + k * 3 + 2, none⟩ = some (.slice u.nA u.new.length u.nc) := hM _ _ fun w' hw => (hw.cell (p := ⟨b0, o0 + k * 3 + 2, none⟩) hb0).trans h2
        clear hM
        simp only [qcmp]
        simp (maxSteps := 5000000) only [↓qpre, qpost, qfacts, qnorm, m0, m1, m2]
        refine ⟨⟨by omega, by omega⟩, ⟨by omega, by omega⟩, ⟨by omega, by omega⟩, ⟨by omega, by omega⟩, ?_⟩
        generalize hW : wr.drew = W
        have hWb : Below w.heap.size w W := by subst hW; exact HW.out.drew
        have hWs : W.heap.size = wr.heap.size := by subst hW; rfl
        have hWO : Owns W w.heap.size (hrow u3 gs :: gs.flatMap HV.rows) := by subst hW; exact Owns.drew HO.out
        clear hW
        refine eff_append (v := .slice none 0 0) (base := W.heap.size) E22 rfl rfl (World.ownsRow_nil _ _ _ _) (x2.below hWb) (oneCell_str _) (by simp only [maxLen]; omega) (by omega) (Nat.le_refl _) ?_
        intro v2 w2 ho2 hg2 hat2
        have hb2 : Below W.heap.size W w2 := (Below.refl _ _).grown hg2 (Nat.le_refl _) (fun g hg => by cases hg)
        rw [Nat.zero_add, List.nil_append] at ho2
        have hs2 := hb2.size
        have hWO2 := hWO.fresh (r := ⟨9, 1, v2, u.new.length, u.new.map .string⟩) hb2 ho2 (by omega)
        have hWb2 : Below w.heap.size w w2 := hWb.trans (hb2.mono (by omega))
        obtain ⟨A2, c2, rfl, hc2⟩ := ownsRow_cap ho2
        refine ⟨hT _ hWb2, ?_⟩
        simp (maxSteps := 5000000) only [qpost, qnorm]
        refine eff_append (v := .slice none 0 0) (base := w2.heap.size) E22 rfl rfl (World.ownsRow_nil _ _ _ _) (x1.below hWb2) (oneCell_str _) (by simp only [maxLen]; omega) (by omega) (Nat.le_refl _) ?_
        intro v3 w3 ho3 hg3 hat3
        have hb3 : Below w2.heap.size w2 w3 := (Below.refl _ _).grown hg3 (Nat.le_refl _) (fun g hg => by cases hg)
        rw [Nat.zero_add, List.nil_append] at ho3
        have hs3 := hb3.size
        have hWO3 := hWO2.fresh (r := ⟨9, 1, v3, u.old.length, u.old.map .string⟩) hb3 ho3 (by omega)
        have hWb3 : Below w.heap.size w w3 := hWb2.trans (hb3.mono (by omega))
        obtain ⟨A3, c3, rfl, hc3⟩ := ownsRow_cap ho3
        refine ⟨hT _ hWb3, ?_⟩
        clear hWO hWO2 hWb hWb2 ho2 ho3 hg2 hg3 hat2 hat3
        simp (maxSteps := 5000000) only [qpost, qnorm]
        refine eff_build rfl (run_build29 _ _ _ _ _ _ _ _) ⟨hT _ hWb3, ?_⟩
        simp (maxSteps := 5000000) only [qpost, qnorm]
        have hWb4 : Below w.heap.size w (w3.alloc (.cells #[.int .i64 (u.at_ + g0), .slice A2 u.new.length c2, .slice A3 u.old.length c3] 29)) := hWb3.alloc (by omega) _
        have hWO4 := hWO3.alloc (.cells #[.int .i64 (u.at_ + g0), .slice A2 u.new.length c2, .slice A3 u.old.length c3] 29)
        have hrw : (w3.alloc (.cells #[.int .i64 (u.at_ + g0), .slice A2 u.new.length c2, .slice A3 u.old.length c3] 29)).ownsRow w.heap.size 29 3 u3 gs.length (gs.flatMap HV.cells) := hWO4.own (hrow u3 gs) (by simp)
        refine eff_slice rfl (run_lit30 _ _ _ _ _ _ _ _) ⟨hT _ hWb4, ?_⟩
        simp (maxSteps := 5000000) only [qpost, qnorm]
        refine eff_append (v := u3) (base := w.heap.size) E30 rfl rfl hrw (Rd.lit (alloc_at rfl) (Nat.lt_succ_self _) rfl (Nat.le_refl _)) (by simp [Value.oneCell']) (by simp only [maxLen]; omega) (by omega) (by simp; omega) ?_
        intro v5 w5 ho5 hg5 hat5
        have hWb5 : Below w.heap.size w w5 := hWb4.grown hg5 hWb4.size (fun g hg => ((HO.out.row).lt _ hg).1)
        have hHB := HB.full (h := ⟨u.at_ + g0, A2, c2, u.new, A3, c3, u.old⟩) (by simpa [HV.rows] using hWO4) (by simpa [hrow, HV.cells] using ho5) hg5 hat5
        have HO5 := Lib.hid hHB
        have HW5 := Lib.hid hWb5
        refine ⟨hT _ hWb5, ?_⟩
        simp (maxSteps := 5000000) only [↓qpre, qpost, qnorm]
        refine hQ _ _ ?_
        clear hQ hT hT' m0 m1 m2 hWO3 hWO4 hWb3 hWb4 ho5 hg5 hat5 hHB hWb5 hrw
        go_wp2
        refine wp_region_q (fun w' => Below w.heap.size w w') (qs 16) mixed (by kernel_rfl) HW5.out.drew ?_
        intro T M Q hT hT' hM hQ
        have m1 : M ⟨b0, o0 + k * 3 + 1, none⟩ = some (.slice u.oA u.old.length u.oc) := hM _ _ fun w' hw => (hw.cell (p := ⟨b0, o0 + k * 3 + 1, none⟩) hb0).trans h1
        have m2 : M ⟨b0, o0 + k * 3 + 2, none⟩ = some (.slice u.nA u.new.length u.nc) := hM _ _ fun w' hw => (hw.cell (p := ⟨b0, o0 + k * 3 + 2, none⟩) hb0).trans h2
        clear hM
        simp only [qcmp]
        simp (maxSteps := 5000000) only [↓qpre, qpost, qfacts, qnorm, m1, m2]
        refine ⟨⟨by omega, by omega⟩, ⟨by omega, by omega⟩, ⟨by omega, by omega⟩, ⟨by omega, by omega⟩, hQ _ _ ?_⟩
        clear hQ hT hT' m1 m2
        have HO5d := Lib.hid (show HB w5.drew w.heap.size v5 (gs ++ [⟨u.at_ + g0, A2, c2, u.new, A3, c3, u.old⟩]) from Owns.drew HO5.out)
        go_wp2
        go_roundw
        case rel =>
          refine ⟨k + 1, gs ++ [⟨u.at_ + g0, A2, c2, u.new, A3, c3, u.old⟩], by omega, ?_, by go_num, HW5.out.drew, HO5d, ?_⟩
          · rw [HI2.out]
          · unfold Hid; rw [HI1.out, List.map_append, HP.out]; rfl
        case measure => simp [intOf]; omega
      · have hkn : k = n := by omega
        subst hkn
        rw [List.take_of_length_le (by rw [HL.out]; exact Nat.le_refl _)] at HP
        go_wp2
        go_ret
        obtain ⟨A', c', rfl, hR'⟩ := HO.out.rdH fun x hx => by
          obtain ⟨e1, e2⟩ : x.pure ∈ invL 0 (hs.map HV.pure) ∧ True := ⟨by rw [← HP.out]; exact List.mem_map.2 ⟨x, hx, rfl⟩, trivial⟩
          exact inv_bounds hl hR HL.out hn e1
        exact ⟨A', _, c', gs, rfl, hR', HP.out, HW.out⟩
end Go.Proofs.Ytabiegbbbljhlaa
