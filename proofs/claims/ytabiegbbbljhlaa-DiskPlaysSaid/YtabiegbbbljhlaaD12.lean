/- Walk: Cut, whole. -/
import Derived.Test.YtabiegbbbljhlaaD10
import Derived.Test.YtabiegbbbljhlaaFloat
namespace Go.Proofs.Ytabiegbbbljhlaa
open Go.RowKit

set_option maxRecDepth 100000 in
set_option maxHeartbeats 4000000 in
theorem cut_any {N g : Nat} {d : PD} {f n : Int} {w : World} (h : DK N w g d) :
    Calls Try.prog 43 #[.pointer (some ⟨g, 0, none⟩), .int .i64 f, .int .i64 n] w (DOp N g (d.cut f n) w) := by
  by_cases hno : d.ask f = 0 → n < 0 ∨ ((d.file f).length : Int) < n
  · exact cut_no h hno
  have ha : d.ask f = 0 := Classical.byContradiction fun hn => hno fun h => absurd h hn
  have hn : ¬ (n < 0 ∨ ((d.file f).length : Int) < n) := fun h => hno fun _ => h
  clear hno
  have HM := Lib.hid (may_any (f := f) h)
  have hK := h
  have hwf := h.wf
  have hroom := hwf.room
  have hfull := hwf.full
  obtain ⟨hdn, hf⟩ := ask_zero ha
  rw [ha] at HM
  obtain ⟨k, rfl⟩ : ∃ k : Nat, n = k := ⟨n.toNat, by omega⟩
  rcases hf with rfl | rfl
  · have hn' : ¬ ((k : Int) < 0 ∨ (d.f0.length : Int) < k) := hn
    clear hn
    have HA := Lib.hid (show d.cut 0 k = (0, (d.put 0 (d.f0.take k) (min d.s0 k)).step) by unfold PD.cut; rw [if_neg (by omega), if_neg (by exact hn')]; rfl)
    obtain ⟨A0, c0, A1, c1, Ak, ck, hD⟩ := hK
    have hcp := hD.d0.cap
    have HD := Lib.hid hD
    have e1 : w.cell? ⟨g, 1, none⟩ = some (.slice A0 d.f0.length c0) := hD.at_ rfl
    have e2 : w.cell? ⟨g, 2, none⟩ = some (.int .i64 d.s0) := hD.at_ rfl
    have f1 := hD.fr 1
    have f2 := hD.fr 2
    clear hD
    have hkl : k ≤ d.f0.length := by omega
    have k1 : ¬ (k : Int) < 0 := by omega
    have k2 : ¬ (d.f0.length : Int) < k := by omega
    clear hn'
    have hs := hwf.s0
    have hlen : (d.f0.take k).length = k := by rw [List.length_take]; omega
    have HWF := Lib.hid (PD.put0_wf hwf (l := d.f0.take k) (s := min d.s0 k) (by rw [hlen]; omega) (by rw [hlen]; omega))
    go_enter Try.func43, Try.ntmps43
    go_wp2_with fail
    refine HM.out.mono ?_
    rintro e w1 ⟨rfl, rfl⟩
    go_wp2
    refine wp_region_z (fun w' => ∀ p : Addr, w'.cell? p = w1.cell? p) [(true, 0), (true, 2), (true, 3), (true, 4), (true, 5), (true, 6), (true, 7), (true, 9), (true, 10), (true, 11), (true, 12)] [1, 13, 14] [(false, 8), (true, 15), (true, 16)] [(false, 17), (true, 18), (true, 19), (false, 20)] [17, 18, 19, 20] mixed (by kernel_rfl) (fun p => rfl) ?_
    intro T M Q1 Q2 Q3 Q4 hT hT' hM h1 h2 h3 h4
    have m1 : M ⟨g, 1, none⟩ = some (.slice A0 d.f0.length c0) := hM _ _ fun w' hw => (hw _).trans e1
    have m2 : M ⟨g, 2, none⟩ = some (.int .i64 d.s0) := hM _ _ fun w' hw => (hw _).trans e2
    clear hM
    have t1 : 1 + Int.toNat 1 * 2 = 3 := rfl
    have t2 : 3 + 1 = 4 := rfl
    have t4 : 1 + 1 = 2 := rfl
    have t3 : min (d.s0 : Int) (k : Int) = ((min d.s0 k : Nat) : Int) := by omega
    simp only [qcmp]
    simp (maxSteps := 5000000) only [↓qpre, qpost, qfacts, qnorm, m1, m2, t1, t2, t4, sliced, addr0, Nat.sub_zero]
    refine ⟨⟨by omega, by omega⟩, ?_⟩
    refine h1 _ _ ?_
    simp only [quiets, List.map, qcmp]
    simp (maxSteps := 5000000) only [↓qpre, qpost, qfacts, qnorm, t1, t2, t4, t3]
    refine h2 _ _ ?_
    simp only [qcmp]
    simp (maxSteps := 5000000) only [↓qpre, qpost, qfacts, qnorm, t1, t2, t4]
    refine eff_call (by kernel_rfl) (clip_any (by omega) (by omega)) rfl rfl ?_
    rintro e w2 ⟨rfl, rfl⟩
    refine ⟨_, rfl, hT _ (fun p => rfl), ?_⟩
    simp (maxSteps := 5000000) only [↓qpre, qpost, qfacts, qnorm, t1, t2, t4]
    refine h3 _ _ ?_
    simp only [qcmp]
    simp (maxSteps := 5000000) only [qpost]
    refine eff_store (v := .slice A0 k k) (b := g) (o := 1) (by kernel_rfl) rfl rfl (by show (w1.cell? _).isSome = true; rw [e1]; rfl) f1 rfl ⟨trivial, ?_⟩
    simp (maxSteps := 5000000) only [↓qpre, qpost, qfacts, qnorm, t1, t2, t4]
    have q1 := heap_setCell_same w1.drew g 1 _ 89 (.slice A0 k k) HD.out.blk
    refine eff_store (v := .int .i64 (min d.s0 k : Nat)) (b := g) (o := 2) (by kernel_rfl) rfl rfl (by rw [show World.cell? _ _ = _ from cell_of_row _ g 2 _ _ _ q1]; rfl) (frozen_of_row _ g 2 _ _ q1) rfl ⟨trivial, ?_⟩
    simp (maxSteps := 5000000) only [qpost]
    refine h4 _ _ ?_
    have HL := Lib.hid (HD.out.file0 (d' := d.put 0 (d.f0.take k) (min d.s0 k)) (A := A0) (n := k) (c := k) (l := d.f0.take k) (s := (min d.s0 k : Nat)) hlen (by rw [by8_take]; exact HD.out.d0.head hkl k (Nat.le_refl _)) rfl rfl HWF.out)
    clear h1 h2 h3 h4 hT hT' m1 m2 t1 t2 t3 t4 q1
    go_wp2_with fail
    refine (step_any (N := N) (DK.drew ⟨_, _, _, _, _, _, HL.out⟩) ((PD.put_down ..).trans hdn)).mono ?_
    rintro e w5 hop
    have hgr := ((set_grown w1 g 1 (.slice A0 k k)).trans (set_grown _ g 2 (.int .i64 (min d.s0 k : Nat)))).trans (grownBy_drew _ _)
    obtain ⟨rfl, h1, h2⟩ := hop
    go_wp2
    go_ret
    rw [HA.out]
    exact ⟨rfl, h1, hgr.trans h2⟩
  · have hn' : ¬ ((k : Int) < 0 ∨ (d.f1.length : Int) < k) := hn
    clear hn
    have HA := Lib.hid (show d.cut 1 k = (0, (d.put 1 (d.f1.take k) (min d.s1 k)).step) by unfold PD.cut; rw [if_neg (by omega), if_neg (by exact hn')]; rfl)
    obtain ⟨A0, c0, A1, c1, Ak, ck, hD⟩ := hK
    have hcp := hD.d1.cap
    have HD := Lib.hid hD
    have e1 : w.cell? ⟨g, 3, none⟩ = some (.slice A1 d.f1.length c1) := hD.at_ rfl
    have e2 : w.cell? ⟨g, 4, none⟩ = some (.int .i64 d.s1) := hD.at_ rfl
    have f1 := hD.fr 3
    have f2 := hD.fr 4
    clear hD
    have hkl : k ≤ d.f1.length := by omega
    have k1 : ¬ (k : Int) < 0 := by omega
    have k2 : ¬ (d.f1.length : Int) < k := by omega
    clear hn'
    have hs := hwf.s1
    have hlen : (d.f1.take k).length = k := by rw [List.length_take]; omega
    have HWF := Lib.hid (PD.put1_wf hwf (l := d.f1.take k) (s := min d.s1 k) (by rw [hlen]; omega) (by rw [hlen]; omega))
    go_enter Try.func43, Try.ntmps43
    go_wp2_with fail
    refine HM.out.mono ?_
    rintro e w1 ⟨rfl, rfl⟩
    go_wp2
    refine wp_region_z (fun w' => ∀ p : Addr, w'.cell? p = w1.cell? p) [(true, 0), (true, 2), (true, 3), (true, 4), (true, 5), (true, 6), (true, 7), (true, 9), (true, 10), (true, 11), (true, 12)] [1, 13, 14] [(false, 8), (true, 15), (true, 16)] [(false, 17), (true, 18), (true, 19), (false, 20)] [17, 18, 19, 20] mixed (by kernel_rfl) (fun p => rfl) ?_
    intro T M Q1 Q2 Q3 Q4 hT hT' hM h1 h2 h3 h4
    have m1 : M ⟨g, 3, none⟩ = some (.slice A1 d.f1.length c1) := hM _ _ fun w' hw => (hw _).trans e1
    have m2 : M ⟨g, 4, none⟩ = some (.int .i64 d.s1) := hM _ _ fun w' hw => (hw _).trans e2
    clear hM
    have t1 : 1 + Int.toNat 1 * 2 = 3 := rfl
    have t2 : 3 + 1 = 4 := rfl
    have t4 : 1 + 1 = 2 := rfl
    have t3 : min (d.s1 : Int) (k : Int) = ((min d.s1 k : Nat) : Int) := by omega
    simp only [qcmp]
    simp (maxSteps := 5000000) only [↓qpre, qpost, qfacts, qnorm, m1, m2, t1, t2, t4, sliced, addr0, Nat.sub_zero]
    refine ⟨⟨by omega, by omega⟩, ?_⟩
    refine h1 _ _ ?_
    simp only [quiets, List.map, qcmp]
    simp (maxSteps := 5000000) only [↓qpre, qpost, qfacts, qnorm, t1, t2, t4, t3]
    refine h2 _ _ ?_
    simp only [qcmp]
    simp (maxSteps := 5000000) only [↓qpre, qpost, qfacts, qnorm, t1, t2, t4]
    refine eff_call (by kernel_rfl) (clip_any (by omega) (by omega)) rfl rfl ?_
    rintro e w2 ⟨rfl, rfl⟩
    refine ⟨_, rfl, hT _ (fun p => rfl), ?_⟩
    simp (maxSteps := 5000000) only [↓qpre, qpost, qfacts, qnorm, t1, t2, t4]
    refine h3 _ _ ?_
    simp only [qcmp]
    simp (maxSteps := 5000000) only [qpost]
    refine eff_store (v := .slice A1 k k) (b := g) (o := 3) (by kernel_rfl) rfl rfl (by show (w1.cell? _).isSome = true; rw [e1]; rfl) f1 rfl ⟨trivial, ?_⟩
    simp (maxSteps := 5000000) only [↓qpre, qpost, qfacts, qnorm, t1, t2, t4]
    have q1 := heap_setCell_same w1.drew g 3 _ 89 (.slice A1 k k) HD.out.blk
    refine eff_store (v := .int .i64 (min d.s1 k : Nat)) (b := g) (o := 4) (by kernel_rfl) rfl rfl (by rw [show World.cell? _ _ = _ from cell_of_row _ g 4 _ _ _ q1]; rfl) (frozen_of_row _ g 4 _ _ q1) rfl ⟨trivial, ?_⟩
    simp (maxSteps := 5000000) only [qpost]
    refine h4 _ _ ?_
    have HL := Lib.hid (HD.out.file1 (d' := d.put 1 (d.f1.take k) (min d.s1 k)) (A := A1) (n := k) (c := k) (l := d.f1.take k) (s := (min d.s1 k : Nat)) hlen (by rw [by8_take]; exact HD.out.d1.head hkl k (Nat.le_refl _)) rfl rfl HWF.out)
    clear h1 h2 h3 h4 hT hT' m1 m2 t1 t2 t3 t4 q1
    go_wp2_with fail
    refine (step_any (N := N) (DK.drew ⟨_, _, _, _, _, _, HL.out⟩) ((PD.put_down ..).trans hdn)).mono ?_
    rintro e w5 hop
    have hgr := ((set_grown w1 g 3 (.slice A1 k k)).trans (set_grown _ g 4 (.int .i64 (min d.s1 k : Nat)))).trans (grownBy_drew _ _)
    obtain ⟨rfl, h1, h2⟩ := hop
    go_wp2
    go_ret
    rw [HA.out]
    exact ⟨rfl, h1, hgr.trans h2⟩
end Go.Proofs.Ytabiegbbbljhlaa
