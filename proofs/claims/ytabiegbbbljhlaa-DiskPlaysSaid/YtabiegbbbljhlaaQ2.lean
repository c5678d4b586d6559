/- Walks: the document's disk: Sync, Cut, Arm. -/
import Derived.Test.YtabiegbbbljhlaaQ1
namespace Go.Proofs.Ytabiegbbbljhlaa
open Go.RowKit

set_option maxRecDepth 100000 in
set_option maxHeartbeats 2000000 in
theorem rsync_any {N g : Nat} {d : PD} {f : Int} {w : World} (h : RK N w g d) :
    Calls Try.prog 47 #[.pointer (some ⟨g, 0, none⟩), .int .i64 f] w (ROp N g (d.sync f) w) := by
  have HM := Lib.hid (rask_any (f := f) h)
  have hK := h
  have hwf := h.wf
  have hroom := hwf.room
  have hfull := hwf.full
  by_cases ha : d.ask f = 0
  · obtain ⟨hdn, hf⟩ := ask_zero ha
    rw [ha] at HM
    rcases hf with rfl | rfl
    · have HA := Lib.hid (show d.sync 0 = (0, (d.put 0 d.f0 d.f0.length).step) by unfold PD.sync; rw [if_neg (by omega)]; rfl)
      have hwf' := PD.put0_wf hwf (l := d.f0) (s := d.f0.length) (by omega) (Nat.le_refl _)
      obtain ⟨A0, c0, A1, c1, Ak, ck, hD⟩ := hK
      have HD := Lib.hid hD
      have e1 : w.cell? ⟨g, 1, none⟩ = some (.slice A0 d.f0.length c0) := hD.at_ rfl
      have e2 : w.cell? ⟨g, 2, none⟩ = some (.int .i64 d.s0) := hD.at_ rfl
      have f2 := hD.fr 2
      clear hD
      go_enter Try.func47, Try.ntmps47
      go_wp2_with fail
      refine HM.out.mono ?_
      rintro e w1 ⟨rfl, rfl⟩
      go_wp2
      refine wp_region_l (fun w' => ∀ p : Addr, w'.cell? p = w1.cell? p) (qs 14) [14] mixed (by kernel_rfl) (fun p => rfl) ?_
      intro T M Q Q2 hT hT' hM hQ hQ2
      have m1 : M ⟨g, 1, none⟩ = some (.slice A0 d.f0.length c0) := hM _ _ fun w' hw => (hw _).trans e1
      clear hM
      have t1 : 1 + Int.toNat 1 * 2 = 3 := rfl
      have t2 : 3 + 1 = 4 := rfl
      have t4 : 1 + 1 = 2 := rfl
      simp only [qcmp]
      simp (maxSteps := 5000000) only [↓qpre, qpost, qfacts, qnorm, m1, t1, t2, t4]
      refine ⟨by omega, by omega, ?_⟩
      refine hQ _ _ ?_
      simp only [lates, List.map, qcmp]
      simp (maxSteps := 5000000) only [qpost]
      refine eff_store (v := .int .i64 d.f0.length) (b := g) (o := 2) (by kernel_rfl) rfl rfl (by show (w1.cell? _).isSome = true; rw [e2]; rfl) f2 rfl ⟨trivial, ?_⟩
      simp (maxSteps := 5000000) only [qpost]
      refine hQ2 _ _ ?_
      have HL := Lib.hid (HD.out.syn0 rfl hwf')
      clear hQ hQ2 hT hT' m1 t1 t2
      go_wp2_with fail
      refine (rstep_any (N := N) (RK.drew ⟨_, _, _, _, _, _, HL.out⟩) ((PD.put_down ..).trans hdn)).mono ?_
      rintro e w5 hop
      have hgr := (set_grown w1 g 2 (.int .i64 d.f0.length)).trans (grownBy_drew _ _)
      obtain ⟨rfl, h1, h2⟩ := hop
      go_wp2
      go_ret
      rw [HA.out]
      exact ⟨rfl, h1, hgr.trans h2⟩
    · have HA := Lib.hid (show d.sync 1 = (0, (d.put 1 d.f1 d.f1.length).step) by unfold PD.sync; rw [if_neg (by omega)]; rfl)
      have hwf' := PD.put1_wf hwf (l := d.f1) (s := d.f1.length) (by omega) (Nat.le_refl _)
      obtain ⟨A0, c0, A1, c1, Ak, ck, hD⟩ := hK
      have HD := Lib.hid hD
      have e1 : w.cell? ⟨g, 3, none⟩ = some (.slice A1 d.f1.length c1) := hD.at_ rfl
      have e2 : w.cell? ⟨g, 4, none⟩ = some (.int .i64 d.s1) := hD.at_ rfl
      have f2 := hD.fr 4
      clear hD
      go_enter Try.func47, Try.ntmps47
      go_wp2_with fail
      refine HM.out.mono ?_
      rintro e w1 ⟨rfl, rfl⟩
      go_wp2
      refine wp_region_l (fun w' => ∀ p : Addr, w'.cell? p = w1.cell? p) (qs 14) [14] mixed (by kernel_rfl) (fun p => rfl) ?_
      intro T M Q Q2 hT hT' hM hQ hQ2
      have m1 : M ⟨g, 3, none⟩ = some (.slice A1 d.f1.length c1) := hM _ _ fun w' hw => (hw _).trans e1
      clear hM
      have t1 : 1 + Int.toNat 1 * 2 = 3 := rfl
      have t2 : 3 + 1 = 4 := rfl
      have t4 : 1 + 1 = 2 := rfl
      simp only [qcmp]
      simp (maxSteps := 5000000) only [↓qpre, qpost, qfacts, qnorm, m1, t1, t2, t4]
      refine ⟨by omega, by omega, ?_⟩
      refine hQ _ _ ?_
      simp only [lates, List.map, qcmp]
      simp (maxSteps := 5000000) only [qpost]
      refine eff_store (v := .int .i64 d.f1.length) (b := g) (o := 4) (by kernel_rfl) rfl rfl (by show (w1.cell? _).isSome = true; rw [e2]; rfl) f2 rfl ⟨trivial, ?_⟩
      simp (maxSteps := 5000000) only [qpost]
      refine hQ2 _ _ ?_
      have HL := Lib.hid (HD.out.syn1 rfl hwf')
      clear hQ hQ2 hT hT' m1 t1 t2
      go_wp2_with fail
      refine (rstep_any (N := N) (RK.drew ⟨_, _, _, _, _, _, HL.out⟩) ((PD.put_down ..).trans hdn)).mono ?_
      rintro e w5 hop
      have hgr := (set_grown w1 g 4 (.int .i64 d.f1.length)).trans (grownBy_drew _ _)
      obtain ⟨rfl, h1, h2⟩ := hop
      go_wp2
      go_ret
      rw [HA.out]
      exact ⟨rfl, h1, hgr.trans h2⟩
  · have HA := Lib.hid (show d.sync f = (d.ask f, d) by unfold PD.sync; rw [if_pos ha])
    obtain ⟨i1, i2⟩ := int_ne ha
    generalize d.ask f = k at *
    go_enter Try.func47, Try.ntmps47
    go_wp2_with fail
    refine HM.out.mono ?_
    rintro e w1 ⟨rfl, rfl⟩
    go_wp2
    go_ret
    rw [HA.out]
    exact ⟨rfl, hK, World.grownBy.refl _ _⟩

set_option maxRecDepth 100000 in
set_option maxHeartbeats 2000000 in
theorem rcut_any {N g : Nat} {d : PD} {f n : Int} {w : World} (h : RK N w g d) :
    Calls Try.prog 48 #[.pointer (some ⟨g, 0, none⟩), .int .i64 f, .int .i64 n] w (ROp N g (d.cut f n) w) := by
  have HM := Lib.hid (rask_any (f := f) h)
  have hK := h
  have hwf := h.wf
  have hroom := hwf.room
  have hfull := hwf.full
  by_cases ha : d.ask f = 0
  · obtain ⟨hdn, hf⟩ := ask_zero ha
    rw [ha] at HM
    rcases hf with rfl | rfl
    · have HA := Lib.hid (show d.cut 0 n = if n < 0 ∨ (d.f0.length : Int) < n then (1, d) else (0, (d.put 0 (d.f0.take n.toNat) (min d.s0 n.toNat)).step) by unfold PD.cut; rw [if_neg (by omega)]; rfl)
      obtain ⟨A0, c0, A1, c1, Ak, ck, hD⟩ := hK
      have hcp := hD.d0.cap
      have HD := Lib.hid hD
      have e1 : w.cell? ⟨g, 1, none⟩ = some (.slice A0 d.f0.length c0) := hD.at_ rfl
      clear hD
      by_cases k1 : n < 0
      · rw [if_pos (.inl k1)] at HA
        go_enter Try.func48, Try.ntmps48
        go_wp2_with fail
        refine HM.out.mono ?_
        rintro e w1 ⟨rfl, rfl⟩
        go_wp2
        go_ret
        rw [HA.out]
        exact ⟨rfl, h, World.grownBy.refl _ _⟩
      by_cases k2 : (d.f0.length : Int) < n
      · rw [if_pos (.inr k2)] at HA
        go_enter Try.func48, Try.ntmps48
        go_wp2_with fail
        refine HM.out.mono ?_
        rintro e w1 ⟨rfl, rfl⟩
        go_wp2
        go_ret
        rw [HA.out]
        exact ⟨rfl, h, World.grownBy.refl _ _⟩
      rw [if_neg (by omega)] at HA
      obtain ⟨k, rfl⟩ : ∃ k : Nat, n = k := ⟨n.toNat, by omega⟩
      rw [Int.toNat_natCast] at HA
      have hkl : k ≤ d.f0.length := by omega
      have hs := hwf.s0
      have hlen : (d.f0.take k).length = k := by rw [List.length_take]; omega
      have HWF := Lib.hid (PD.put0_wf hwf (l := d.f0.take k) (s := min d.s0 k) (by rw [hlen]; omega) (by rw [hlen]; omega))
      have HDK := Lib.hid (show Dat N 5 w A0 k c0 (by8 (d.f0.take k)) from by rw [by8_take]; exact HD.out.d0.head hkl c0 (by omega))
      clear hwf h
      go_enter Try.func48, Try.ntmps48
      go_wp2_with fail
      refine HM.out.mono ?_
      rintro e w1 ⟨rfl, rfl⟩
      go_wp2
      refine wp_region_l (fun w' => w1.heap.size ≤ w'.heap.size ∧ Below w1.heap.size w1 w') [(true, 0), (true, 1), (true, 2), (true, 3), (true, 4), (true, 5), (true, 6), (true, 7), (true, 8), (true, 9), (true, 10), (true, 12), (true, 13), (false, 11), (true, 14), (true, 15)] [16] mixed (by kernel_rfl) ⟨Nat.le_refl _, (Below.refl _ _).drew⟩ ?_
      intro T M Q Q2 hT hT' hM hQ hQ2
      have m1 : M ⟨g, 1, none⟩ = some (.slice A0 d.f0.length c0) := hM _ _ fun w' hw => (hw.2.cell (p := ⟨g, 1, none⟩) HD.out.lt).trans e1
      clear hM
      have t1 : 1 + Int.toNat 1 * 2 = 3 := rfl
      have t2 : 3 + 1 = 4 := rfl
      have t4 : 1 + 1 = 2 := rfl
      have TN : ∀ n : Nat, (n : Int).toNat = n := fun n => rfl
      simp only [qcmp]
      simp (maxSteps := 5000000) only [↓qpre, qpost, qfacts, qnorm, m1, t1, t2, t4, sliced, addr0, Nat.sub_zero, TN]
      refine ⟨by omega, by omega, ?_⟩
      refine eff_append E48 (base := w1.heap.size) rfl rfl (World.ownsRow_nil _ _ _ _) (show Rd w1.drew w1.heap.size 1 A0 k c0 (by8 (d.f0.take k)) from HDK.out.drew.rd) (by8_one _) (by simp only [maxLen]; omega) (by omega) (Nat.le_refl _) ?_
      intro v3 w3 ho3 hg3 hat3
      have hb3 : Below w1.heap.size w1 w3 := ((Below.refl w1.heap.size w1).drew).grown hg3 (Nat.le_refl _) (fun k hk => by cases hk)
      refine ⟨hT _ ⟨hb3.size, hb3⟩, ?_⟩
      rw [Nat.zero_add, List.nil_append] at ho3
      obtain ⟨A', c', rfl, hc'⟩ := ownsRow_cap ho3
      have HL4 := Lib.hid (HD.out.below hb3)
      have q1 := heap_setCell_same w3 g 1 _ 98 (.slice A' k c') HL4.out.blk
      have e3 : (w3.setCell ⟨g, 1, none⟩ (.slice A' k c')).cell? ⟨g, 2, none⟩ = some (.int .i64 d.s0) := cell_of_row _ g 2 _ _ _ q1
      have f3 : (w3.setCell ⟨g, 1, none⟩ (.slice A' k c')).frozen? ⟨g, 2, none⟩ = false := frozen_of_row _ g 2 _ _ q1
      have HL5 := Lib.hid (HL4.out.file0 (d' := d.put 0 (d.f0.take k) (min d.s0 k)) (A := A') (n := k) (c := c') (l := d.f0.take k) (s := (min d.s0 k : Nat)) hlen (Dat.of_own ho3 hc') rfl rfl HWF.out)
      have HGR := Lib.hid ((grownBy_below hb3 (some g)).trans ((set_grown w3 g 1 (.slice A' k c')).trans (set_grown _ g 2 (.int .i64 (min d.s0 k : Nat)))))
      clear ho3 hg3 hb3 hat3 q1
      simp (maxSteps := 5000000) only [↓qpre, qpost, qfacts, qnorm, t1, t2, t4]
      refine ⟨by omega, hQ _ _ ?_⟩
      simp only [lates, List.map, qcmp]
      simp (maxSteps := 5000000) only [qpost]
      refine eff_store (v := .slice A' k c') (b := g) (o := 1) (by kernel_rfl) rfl rfl (by rw [HL4.out.at_ (j := 1) rfl]; rfl) (HL4.out.fr 1) rfl ⟨trivial, ?_⟩
      simp (maxSteps := 5000000) only [qpost]
      refine hQ2 _ _ ?_
      clear hQ hQ2 hT hT' m1 t1 t2 t4
      generalize w3.setCell ⟨g, 1, none⟩ (.slice A' k c') = W at *
      go_wp2
      refine wp_region_l (fun w' => ∀ p : Addr, w'.cell? p = W.cell? p) (qs 15) [15] mixed (by kernel_rfl) (fun p => rfl) ?_
      intro T M Q Q2 hT hT' hM hQ hQ2
      have m1 : M ⟨g, 2, none⟩ = some (.int .i64 d.s0) := hM _ _ fun w' hw => (hw _).trans e3
      clear hM
      have t1 : 1 + Int.toNat 1 * 2 = 3 := rfl
      have t2 : 3 + 1 = 4 := rfl
      have t4 : 1 + 1 = 2 := rfl
      have t3 : min (d.s0 : Int) (k : Int) = ((min d.s0 k : Nat) : Int) := by omega
      simp only [qcmp]
      simp (maxSteps := 5000000) only [↓qpre, qpost, qfacts, qnorm, m1, t1, t2, t3, t4]
      refine ⟨by omega, by omega, ?_⟩
      refine hQ _ _ ?_
      simp only [lates, List.map, qcmp]
      simp (maxSteps := 5000000) only [qpost]
      refine eff_store (v := .int .i64 (min d.s0 k : Nat)) (b := g) (o := 2) (by kernel_rfl) rfl rfl (by show (W.cell? _).isSome = true; rw [e3]; rfl) f3 rfl ⟨trivial, ?_⟩
      simp (maxSteps := 5000000) only [qpost]
      refine hQ2 _ _ ?_
      clear hQ hQ2 hT hT' m1 t1 t2 t3 t4
      go_wp2_with fail
      refine (rstep_any (N := N) (RK.drew ⟨_, _, _, _, _, _, HL5.out⟩) ((PD.put_down ..).trans hdn)).mono ?_
      rintro e w5 hop
      obtain ⟨rfl, h1, h2⟩ := hop
      go_wp2
      go_ret
      rw [HA.out]
      exact ⟨rfl, h1, (HGR.out.trans (grownBy_drew _ _)).trans h2⟩
    · have HA := Lib.hid (show d.cut 1 n = if n < 0 ∨ (d.f1.length : Int) < n then (1, d) else (0, (d.put 1 (d.f1.take n.toNat) (min d.s1 n.toNat)).step) by unfold PD.cut; rw [if_neg (by omega)]; rfl)
      obtain ⟨A0, c0, A1, c1, Ak, ck, hD⟩ := hK
      have hcp := hD.d1.cap
      have HD := Lib.hid hD
      have e1 : w.cell? ⟨g, 3, none⟩ = some (.slice A1 d.f1.length c1) := hD.at_ rfl
      clear hD
      by_cases k1 : n < 0
      · rw [if_pos (.inl k1)] at HA
        go_enter Try.func48, Try.ntmps48
        go_wp2_with fail
        refine HM.out.mono ?_
        rintro e w1 ⟨rfl, rfl⟩
        go_wp2
        go_ret
        rw [HA.out]
        exact ⟨rfl, h, World.grownBy.refl _ _⟩
      by_cases k2 : (d.f1.length : Int) < n
      · rw [if_pos (.inr k2)] at HA
        go_enter Try.func48, Try.ntmps48
        go_wp2_with fail
        refine HM.out.mono ?_
        rintro e w1 ⟨rfl, rfl⟩
        go_wp2
        go_ret
        rw [HA.out]
        exact ⟨rfl, h, World.grownBy.refl _ _⟩
      rw [if_neg (by omega)] at HA
      obtain ⟨k, rfl⟩ : ∃ k : Nat, n = k := ⟨n.toNat, by omega⟩
      rw [Int.toNat_natCast] at HA
      have hkl : k ≤ d.f1.length := by omega
      have hs := hwf.s1
      have hlen : (d.f1.take k).length = k := by rw [List.length_take]; omega
      have HWF := Lib.hid (PD.put1_wf hwf (l := d.f1.take k) (s := min d.s1 k) (by rw [hlen]; omega) (by rw [hlen]; omega))
      have HDK := Lib.hid (show Dat N 5 w A1 k c1 (by8 (d.f1.take k)) from by rw [by8_take]; exact HD.out.d1.head hkl c1 (by omega))
      clear hwf h
      go_enter Try.func48, Try.ntmps48
      go_wp2_with fail
      refine HM.out.mono ?_
      rintro e w1 ⟨rfl, rfl⟩
      go_wp2
      refine wp_region_l (fun w' => w1.heap.size ≤ w'.heap.size ∧ Below w1.heap.size w1 w') [(true, 0), (true, 1), (true, 2), (true, 3), (true, 4), (true, 5), (true, 6), (true, 7), (true, 8), (true, 9), (true, 10), (true, 12), (true, 13), (false, 11), (true, 14), (true, 15)] [16] mixed (by kernel_rfl) ⟨Nat.le_refl _, (Below.refl _ _).drew⟩ ?_
      intro T M Q Q2 hT hT' hM hQ hQ2
      have m1 : M ⟨g, 3, none⟩ = some (.slice A1 d.f1.length c1) := hM _ _ fun w' hw => (hw.2.cell (p := ⟨g, 3, none⟩) HD.out.lt).trans e1
      clear hM
      have t1 : 1 + Int.toNat 1 * 2 = 3 := rfl
      have t2 : 3 + 1 = 4 := rfl
      have t4 : 1 + 1 = 2 := rfl
      have TN : ∀ n : Nat, (n : Int).toNat = n := fun n => rfl
      simp only [qcmp]
      simp (maxSteps := 5000000) only [↓qpre, qpost, qfacts, qnorm, m1, t1, t2, t4, sliced, addr0, Nat.sub_zero, TN]
      refine ⟨by omega, by omega, ?_⟩
      refine eff_append E48 (base := w1.heap.size) rfl rfl (World.ownsRow_nil _ _ _ _) (show Rd w1.drew w1.heap.size 1 A1 k c1 (by8 (d.f1.take k)) from HDK.out.drew.rd) (by8_one _) (by simp only [maxLen]; omega) (by omega) (Nat.le_refl _) ?_
      intro v3 w3 ho3 hg3 hat3
      have hb3 : Below w1.heap.size w1 w3 := ((Below.refl w1.heap.size w1).drew).grown hg3 (Nat.le_refl _) (fun k hk => by cases hk)
      refine ⟨hT _ ⟨hb3.size, hb3⟩, ?_⟩
      rw [Nat.zero_add, List.nil_append] at ho3
      obtain ⟨A', c', rfl, hc'⟩ := ownsRow_cap ho3
      have HL4 := Lib.hid (HD.out.below hb3)
      have q1 := heap_setCell_same w3 g 3 _ 98 (.slice A' k c') HL4.out.blk
      have e3 : (w3.setCell ⟨g, 3, none⟩ (.slice A' k c')).cell? ⟨g, 4, none⟩ = some (.int .i64 d.s1) := cell_of_row _ g 4 _ _ _ q1
      have f3 : (w3.setCell ⟨g, 3, none⟩ (.slice A' k c')).frozen? ⟨g, 4, none⟩ = false := frozen_of_row _ g 4 _ _ q1
      have HL5 := Lib.hid (HL4.out.file1 (d' := d.put 1 (d.f1.take k) (min d.s1 k)) (A := A') (n := k) (c := c') (l := d.f1.take k) (s := (min d.s1 k : Nat)) hlen (Dat.of_own ho3 hc') rfl rfl HWF.out)
      have HGR := Lib.hid ((grownBy_below hb3 (some g)).trans ((set_grown w3 g 3 (.slice A' k c')).trans (set_grown _ g 4 (.int .i64 (min d.s1 k : Nat)))))
      clear ho3 hg3 hb3 hat3 q1
      simp (maxSteps := 5000000) only [↓qpre, qpost, qfacts, qnorm, t1, t2, t4]
      refine ⟨by omega, hQ _ _ ?_⟩
      simp only [lates, List.map, qcmp]
      simp (maxSteps := 5000000) only [qpost]
      refine eff_store (v := .slice A' k c') (b := g) (o := 3) (by kernel_rfl) rfl rfl (by rw [HL4.out.at_ (j := 3) rfl]; rfl) (HL4.out.fr 3) rfl ⟨trivial, ?_⟩
      simp (maxSteps := 5000000) only [qpost]
      refine hQ2 _ _ ?_
      clear hQ hQ2 hT hT' m1 t1 t2 t4
      generalize w3.setCell ⟨g, 3, none⟩ (.slice A' k c') = W at *
      go_wp2
      refine wp_region_l (fun w' => ∀ p : Addr, w'.cell? p = W.cell? p) (qs 15) [15] mixed (by kernel_rfl) (fun p => rfl) ?_
      intro T M Q Q2 hT hT' hM hQ hQ2
      have m1 : M ⟨g, 4, none⟩ = some (.int .i64 d.s1) := hM _ _ fun w' hw => (hw _).trans e3
      clear hM
      have t1 : 1 + Int.toNat 1 * 2 = 3 := rfl
      have t2 : 3 + 1 = 4 := rfl
      have t4 : 1 + 1 = 2 := rfl
      have t3 : min (d.s1 : Int) (k : Int) = ((min d.s1 k : Nat) : Int) := by omega
      simp only [qcmp]
      simp (maxSteps := 5000000) only [↓qpre, qpost, qfacts, qnorm, m1, t1, t2, t3, t4]
      refine ⟨by omega, by omega, ?_⟩
      refine hQ _ _ ?_
      simp only [lates, List.map, qcmp]
      simp (maxSteps := 5000000) only [qpost]
      refine eff_store (v := .int .i64 (min d.s1 k : Nat)) (b := g) (o := 4) (by kernel_rfl) rfl rfl (by show (W.cell? _).isSome = true; rw [e3]; rfl) f3 rfl ⟨trivial, ?_⟩
      simp (maxSteps := 5000000) only [qpost]
      refine hQ2 _ _ ?_
      clear hQ hQ2 hT hT' m1 t1 t2 t3 t4
      go_wp2_with fail
      refine (rstep_any (N := N) (RK.drew ⟨_, _, _, _, _, _, HL5.out⟩) ((PD.put_down ..).trans hdn)).mono ?_
      rintro e w5 hop
      obtain ⟨rfl, h1, h2⟩ := hop
      go_wp2
      go_ret
      rw [HA.out]
      exact ⟨rfl, h1, (HGR.out.trans (grownBy_drew _ _)).trans h2⟩
  · have HA := Lib.hid (show d.cut f n = (d.ask f, d) by unfold PD.cut; rw [if_pos ha])
    obtain ⟨i1, i2⟩ := int_ne ha
    generalize d.ask f = k at *
    go_enter Try.func48, Try.ntmps48
    go_wp2_with fail
    refine HM.out.mono ?_
    rintro e w1 ⟨rfl, rfl⟩
    go_wp2
    go_ret
    rw [HA.out]
    exact ⟨rfl, hK, World.grownBy.refl _ _⟩

theorem armStep {N n n' : Nat} {w w2 : World} {v : Value} {xs xs' : List Value} (ho : w2.ownsRow w.heap.size 3 1 v n' xs') (hg : w.grownBy w2 (Value.slice none 0 0).ownBlock) (hn : n' = n) (hx : xs' = xs) :
    ∃ A c, v = .slice A n c ∧ Hid (Below w.heap.size w w2) ∧ Hid (Dat N 3 w2 A n c xs) := by
  subst hn hx
  obtain ⟨A, c, rfl, hc⟩ := ownsRow_cap ho
  exact ⟨A, c, rfl, Lib.hid ((Below.refl w.heap.size w).grown hg (Nat.le_refl _) (fun k hk => by cases hk)), Lib.hid (Dat.of_own ho hc)⟩

set_option maxRecDepth 100000 in
set_option maxHeartbeats 2000000 in
theorem rarm_any {N g : Nat} {d : PD} {st : Int} {K : Option Addr} {nk ck' BB : Nat} {keep : List Int} {w : World} (h : RK N w g d) (hst : st ≤ 9223372036854775807) (hBB : BB ≤ w.heap.size)
    (hr : Rd w BB 1 K nk ck' (i64s keep)) (hk : ∀ k ∈ keep, -9223372036854775808 ≤ k ∧ k ≤ 9223372036854775807) (hl : nk ≤ 17592186044416) :
    Calls Try.prog 49 #[.pointer (some ⟨g, 0, none⟩), .int .i64 st, .slice K nk ck'] w (fun e w' => e = .returned (.tuple #[]) ∧ RK N w' g (d.arm st keep) ∧ w.grownBy w' (some g)) := by
  have hkl : keep.length = nk := by have := hr.len; rw [i64s_len] at this; omega
  have hK := h
  have HDN := Lib.hid (rdown_any h)
  have HR := Lib.hid hr
  clear hr
  obtain ⟨A0, c0, A1, c1, Ak, ck, hD⟩ := h
  cases hdn : d.down
  · rw [hdn] at HDN
    have HWF := Lib.hid (PD.arm_wf hK.wf hst hk (by omega))
    have HD := Lib.hid hD
    clear hD
    go_enter Try.func49, Try.ntmps49
    go_wp2_with fail
    refine HDN.out.mono ?_
    rintro e w1 ⟨rfl, rfl⟩
    go_wp2_with (at_builtin; refine wpl_append rfl (.const (.slice none 0 0)) (.tmp 13) 64 rfl E64i (v := .slice none 0 0) (base := w1.heap.size) rfl rfl (World.ownsRow_nil _ _ _ _) HR.out (i64s_one _) (by simp only [maxLen]; omega) (by omega) (Nat.le_refl _) ?_; intro v2 w2 ho hg hat; obtain ⟨A', c', rfl, HB2, HO2⟩ := armStep (N := N) ho hg (Nat.zero_add nk) (List.nil_append _); have e5 : w2.cell? ⟨g, 5, none⟩ = some (.bool d.armed) := (HD.out.below HB2.out).at_ rfl; have e6 : w2.cell? ⟨g, 6, none⟩ = some (.int .i64 d.steps) := (HD.out.below HB2.out).at_ rfl; have e7 : w2.cell? ⟨g, 7, none⟩ = some (.slice Ak d.keep.length ck) := (HD.out.below HB2.out).at_ rfl; have f5 := (HD.out.below HB2.out).fr 5; have f6 := (HD.out.below HB2.out).fr 6; have f7 := (HD.out.below HB2.out).fr 7; clear ho hg hat)
    all_goals
      refine bodyPost_end (results_none rfl _ _ _) rfl ?_
      refine ⟨rfl, ⟨_, _, _, _, _, _, ((HD.out.below HB2.out).armed hkl HO2.out hdn ?_ HWF.out).1⟩, ((grownBy_below HB2.out (some g)).trans ((HD.out.below HB2.out).armed hkl HO2.out hdn ?_ HWF.out).2)⟩ <;> omega
  · rw [hdn] at HDN
    have HA := Lib.hid (show d.arm st keep = d by unfold PD.arm; rw [if_pos hdn])
    go_enter Try.func49, Try.ntmps49
    go_wp2_with fail
    refine HDN.out.mono ?_
    rintro e w1 ⟨rfl, rfl⟩
    go_wp2
    refine bodyPost_ret (results_none rfl _ _ _) rfl ?_
    rw [HA.out]
    exact ⟨rfl, hK, World.grownBy.refl _ _⟩
end Go.Proofs.Ytabiegbbbljhlaa
