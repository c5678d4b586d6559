/- Walks: the disk's functions that write: Sync, Cut. -/
import Derived.Test.YtabiegbbbljhlaaD3
namespace Go.Proofs.Ytabiegbbbljhlaa
open Go.RowKit

set_option maxRecDepth 100000 in
set_option maxHeartbeats 2000000 in
theorem sync_any {N g : Nat} {d : PD} {f : Int} {w : World} (h : DK N w g d) :
    Calls Try.prog 37 #[.pointer (some ⟨g, 0, none⟩), .int .i64 f] w (DOp N g (d.sync f) w) := by
  have HM := Lib.hid (may_any (f := f) h)
  have hK := h
  have hwf := h.wf
  have hroom := hwf.room
  have hfull := hwf.full
  by_cases ha : d.ask f = 0
  · obtain ⟨hdn, hf⟩ := ask_zero ha
    rw [ha] at HM
    rcases hf with rfl | rfl
    · have HA := Lib.hid (show d.sync 0 = (0, (d.put 0 d.f0 d.f0.length).step) by unfold PD.sync; rw [if_neg (by omega)]; rfl)
      have hwf' := PD.put0_wf hwf (l := d.f0) (s := d.f0.length) (by omega) (Nat.le_refl _)
      obtain ⟨A0, c0, A1, c1, Ak, ck, hD⟩ := hK
      have HD := Lib.hid hD
      have e1 : w.cell? ⟨g, 1, none⟩ = some (.slice A0 d.f0.length c0) := hD.at_ rfl
      have e2 : w.cell? ⟨g, 2, none⟩ = some (.int .i64 d.s0) := hD.at_ rfl
      have f2 := hD.fr 2
      clear hD
      go_enter Try.func37, Try.ntmps37
      go_wp2_with fail
      refine HM.out.mono ?_
      rintro e w1 ⟨rfl, rfl⟩
      go_wp2
      refine wp_region_l (fun w' => ∀ p : Addr, w'.cell? p = w1.cell? p) (qs 14) [14] mixed (by kernel_rfl) (fun p => rfl) ?_
      intro T M Q Q2 hT hT' hM hQ hQ2
      have m1 : M ⟨g, 1, none⟩ = some (.slice A0 d.f0.length c0) := hM _ _ fun w' hw => (hw _).trans e1
      clear hM
      have t1 : 1 + Int.toNat 1 * 2 = 3 := rfl
      have t2 : 3 + 1 = 4 := rfl
      simp only [qcmp]
      simp (maxSteps := 5000000) only [↓qpre, qpost, qfacts, qnorm, m1]
      refine ⟨⟨by omega, by omega⟩, ⟨by omega, by omega⟩, ?_⟩
      refine hQ _ _ ?_
      simp only [lates, List.map, qcmp]
      simp (maxSteps := 5000000) only [qpost]
      refine eff_store (v := .int .i64 d.f0.length) (b := g) (o := 2) (by kernel_rfl) rfl rfl (by show (w1.cell? _).isSome = true; rw [e2]; rfl) f2 rfl ⟨trivial, ?_⟩
      simp (maxSteps := 5000000) only [qpost]
      refine hQ2 _ _ ?_
      have HL := Lib.hid (HD.out.syn0 rfl hwf')
      clear hQ hQ2 hT hT' m1 t1 t2
      go_wp2_with fail
      refine (step_any (N := N) (DK.drew ⟨_, _, _, _, _, _, HL.out⟩) ((PD.put_down ..).trans hdn)).mono ?_
      rintro e w5 hop
      have hgr := (set_grown w1 g 2 (.int .i64 d.f0.length)).trans (grownBy_drew _ _)
      obtain ⟨rfl, h1, h2⟩ := hop
      go_wp2
      go_ret
      rw [HA.out]
      exact ⟨rfl, h1, hgr.trans h2⟩
    · have HA := Lib.hid (show d.sync 1 = (0, (d.put 1 d.f1 d.f1.length).step) by unfold PD.sync; rw [if_neg (by omega)]; rfl)
      have hwf' := PD.put1_wf hwf (l := d.f1) (s := d.f1.length) (by omega) (Nat.le_refl _)
      obtain ⟨A0, c0, A1, c1, Ak, ck, hD⟩ := hK
      have HD := Lib.hid hD
      have e1 : w.cell? ⟨g, 3, none⟩ = some (.slice A1 d.f1.length c1) := hD.at_ rfl
      have e2 : w.cell? ⟨g, 4, none⟩ = some (.int .i64 d.s1) := hD.at_ rfl
      have f2 := hD.fr 4
      clear hD
      go_enter Try.func37, Try.ntmps37
      go_wp2_with fail
      refine HM.out.mono ?_
      rintro e w1 ⟨rfl, rfl⟩
      go_wp2
      refine wp_region_l (fun w' => ∀ p : Addr, w'.cell? p = w1.cell? p) (qs 14) [14] mixed (by kernel_rfl) (fun p => rfl) ?_
      intro T M Q Q2 hT hT' hM hQ hQ2
      have m1 : M ⟨g, 3, none⟩ = some (.slice A1 d.f1.length c1) := hM _ _ fun w' hw => (hw _).trans e1
      clear hM
      have t1 : 1 + Int.toNat 1 * 2 = 3 := rfl
      have t2 : 3 + 1 = 4 := rfl
      simp only [qcmp]
      simp (maxSteps := 5000000) only [↓qpre, qpost, qfacts, qnorm, m1, t1, t2]
      refine ⟨⟨by omega, by omega⟩, ⟨by omega, by omega⟩, ?_⟩
      refine hQ _ _ ?_
      simp only [lates, List.map, qcmp]
      simp (maxSteps := 5000000) only [qpost]
      refine eff_store (v := .int .i64 d.f1.length) (b := g) (o := 4) (by kernel_rfl) rfl rfl (by show (w1.cell? _).isSome = true; rw [e2]; rfl) f2 rfl ⟨trivial, ?_⟩
      simp (maxSteps := 5000000) only [qpost]
      refine hQ2 _ _ ?_
      have HL := Lib.hid (HD.out.syn1 rfl hwf')
      clear hQ hQ2 hT hT' m1 t1 t2
      go_wp2_with fail
      refine (step_any (N := N) (DK.drew ⟨_, _, _, _, _, _, HL.out⟩) ((PD.put_down ..).trans hdn)).mono ?_
      rintro e w5 hop
      have hgr := (set_grown w1 g 4 (.int .i64 d.f1.length)).trans (grownBy_drew _ _)
      obtain ⟨rfl, h1, h2⟩ := hop
      go_wp2
      go_ret
      rw [HA.out]
      exact ⟨rfl, h1, hgr.trans h2⟩
  · have HA := Lib.hid (show d.sync f = (d.ask f, d) by unfold PD.sync; rw [if_pos ha])
    obtain ⟨i1, i2⟩ := int_ne ha
    generalize d.ask f = k at *
    go_enter Try.func37, Try.ntmps37
    go_wp2_with fail
    refine HM.out.mono ?_
    rintro e w1 ⟨rfl, rfl⟩
    go_wp2
    go_ret
    rw [HA.out]
    exact ⟨rfl, hK, World.grownBy.refl _ _⟩

set_option maxRecDepth 100000 in
set_option maxHeartbeats 2000000 in
theorem cut_no {N g : Nat} {d : PD} {f n : Int} {w : World} (h : DK N w g d) (hno : d.ask f = 0 → n < 0 ∨ ((d.file f).length : Int) < n) :
    Calls Try.prog 43 #[.pointer (some ⟨g, 0, none⟩), .int .i64 f, .int .i64 n] w (DOp N g (d.cut f n) w) := by
  have HM := Lib.hid (may_any (f := f) h)
  have hK := h
  have hwf := h.wf
  have hroom := hwf.room
  have hfull := hwf.full
  by_cases ha : d.ask f = 0
  · obtain ⟨hdn, hf⟩ := ask_zero ha
    rw [ha] at HM
    rcases hf with rfl | rfl
    · have HA := Lib.hid (show d.cut 0 n = if n < 0 ∨ (d.f0.length : Int) < n then (1, d) else (0, (d.put 0 (d.f0.take n.toNat) (min d.s0 n.toNat)).step) by unfold PD.cut; rw [if_neg (by omega)]; rfl)
      obtain ⟨A0, c0, A1, c1, Ak, ck, hD⟩ := hK
      have hcp := hD.d0.cap
      have HD := Lib.hid hD
      have e1 : w.cell? ⟨g, 1, none⟩ = some (.slice A0 d.f0.length c0) := hD.at_ rfl
      have e2 : w.cell? ⟨g, 2, none⟩ = some (.int .i64 d.s0) := hD.at_ rfl
      have f1 := hD.fr 1
      have f2 := hD.fr 2
      clear hD
      replace hno := hno ha
      have hno : n < 0 ∨ (d.f0.length : Int) < n := hno
      by_cases k1 : n < 0
      · rw [if_pos (.inl k1)] at HA
        go_enter Try.func43, Try.ntmps43
        go_wp2_with fail
        refine HM.out.mono ?_
        rintro e w1 ⟨rfl, rfl⟩
        go_wp2
        go_ret
        rw [HA.out]
        exact ⟨rfl, h, World.grownBy.refl _ _⟩
      by_cases k2 : (d.f0.length : Int) < n
      · rw [if_pos (.inr k2)] at HA
        go_enter Try.func43, Try.ntmps43
        go_wp2_with fail
        refine HM.out.mono ?_
        rintro e w1 ⟨rfl, rfl⟩
        go_wp2
        go_ret
        rw [HA.out]
        exact ⟨rfl, h, World.grownBy.refl _ _⟩
      exact absurd hno (by omega)
    · have HA := Lib.hid (show d.cut 1 n = if n < 0 ∨ (d.f1.length : Int) < n then (1, d) else (0, (d.put 1 (d.f1.take n.toNat) (min d.s1 n.toNat)).step) by unfold PD.cut; rw [if_neg (by omega)]; rfl)
      obtain ⟨A0, c0, A1, c1, Ak, ck, hD⟩ := hK
      have hcp := hD.d1.cap
      have HD := Lib.hid hD
      have e1 : w.cell? ⟨g, 3, none⟩ = some (.slice A1 d.f1.length c1) := hD.at_ rfl
      have e2 : w.cell? ⟨g, 4, none⟩ = some (.int .i64 d.s1) := hD.at_ rfl
      have f1 := hD.fr 3
      have f2 := hD.fr 4
      clear hD
      replace hno := hno ha
      have hno : n < 0 ∨ (d.f1.length : Int) < n := hno
      by_cases k1 : n < 0
      · rw [if_pos (.inl k1)] at HA
        go_enter Try.func43, Try.ntmps43
        go_wp2_with fail
        refine HM.out.mono ?_
        rintro e w1 ⟨rfl, rfl⟩
        go_wp2
        go_ret
        rw [HA.out]
        exact ⟨rfl, h, World.grownBy.refl _ _⟩
      by_cases k2 : (d.f1.length : Int) < n
      · rw [if_pos (.inr k2)] at HA
        go_enter Try.func43, Try.ntmps43
        go_wp2_with fail
        refine HM.out.mono ?_
        rintro e w1 ⟨rfl, rfl⟩
        go_wp2
        go_ret
        rw [HA.out]
        exact ⟨rfl, h, World.grownBy.refl _ _⟩
      exact absurd hno (by omega)
  · have HA := Lib.hid (show d.cut f n = (d.ask f, d) by unfold PD.cut; rw [if_pos ha])
    obtain ⟨i1, i2⟩ := int_ne ha
    generalize d.ask f = k at *
    go_enter Try.func43, Try.ntmps43
    go_wp2_with fail
    refine HM.out.mono ?_
    rintro e w1 ⟨rfl, rfl⟩
    go_wp2
    go_ret
    rw [HA.out]
    exact ⟨rfl, hK, World.grownBy.refl _ _⟩
end Go.Proofs.Ytabiegbbbljhlaa
