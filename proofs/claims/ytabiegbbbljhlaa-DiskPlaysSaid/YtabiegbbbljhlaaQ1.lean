/- Walks: the document's disk: Read, Append, Sync. -/
import Derived.Test.YtabiegbbbljhlaaQ0
namespace Go.Proofs.Ytabiegbbbljhlaa
open Go.RowKit

set_option maxHeartbeats 1000000 in
theorem rread_any {N g : Nat} {d : PD} {f : Int} {w : World} (h : RK N w g d) :
    Calls Try.prog 71 #[.pointer (some ⟨g, 0, none⟩), .int .i64 f] w (fun e w' => ∃ v, e = .returned (.tuple #[v, .int .i64 (d.read f).2]) ∧ w'.ownsRow w.heap.size 5 1 v (d.read f).1.length (by8 (d.read f).1) ∧ Below w.heap.size w w') := by
  have HM := Lib.hid (rask_any (f := f) h)
  have hwf := h.wf
  have hroom := hwf.room
  have hfull := hwf.full
  clear hwf
  by_cases ha : d.ask f = 0
  · have HA := Lib.hid (show d.read f = (d.file f, 0) by unfold PD.read; rw [if_neg (by omega)])
    rw [ha] at HM
    have hd := ask_zero ha
    obtain ⟨A0, c0, A1, c1, Ak, ck, h⟩ := h
    rcases hd.2 with rfl | rfl
    · have e1 : w.cell? ⟨g, 1, none⟩ = some (.slice A0 d.f0.length c0) := h.at_ rfl
      have HR := Lib.hid h.d0.rd
      clear h
      go_enter Try.func71, Try.ntmps71
      go_wp2_with fail
      refine HM.out.mono ?_
      rintro e w1 ⟨rfl, rfl⟩
      go_wp2_with (at_builtin; refine wpl_append rfl (.const (.slice none 0 0)) (.tmp 19) 48 rfl E48 (v := .slice none 0 0) (base := w1.heap.size) rfl rfl (World.ownsRow_nil _ _ _ _) HR.out (by8_one _) (by simp only [maxLen]; omega) (by omega) (Nat.le_refl _) ?_; intro v2 w2 ho hg hat)
      go_ret2
      rw [Nat.zero_add, List.nil_append] at ho
      rw [HA.out]
      exact ⟨v2, rfl, ho, (Below.refl w1.heap.size w1).grown hg (Nat.le_refl _) (fun k hk => by cases hk)⟩
    · have e1 : w.cell? ⟨g, 3, none⟩ = some (.slice A1 d.f1.length c1) := h.at_ rfl
      have HR := Lib.hid h.d1.rd
      clear h
      go_enter Try.func71, Try.ntmps71
      go_wp2_with fail
      refine HM.out.mono ?_
      rintro e w1 ⟨rfl, rfl⟩
      go_wp2_with (at_builtin; refine wpl_append rfl (.const (.slice none 0 0)) (.tmp 19) 48 rfl E48 (v := .slice none 0 0) (base := w1.heap.size) rfl rfl (World.ownsRow_nil _ _ _ _) HR.out (by8_one _) (by simp only [maxLen]; omega) (by omega) (Nat.le_refl _) ?_; intro v2 w2 ho hg hat)
      go_ret2
      rw [Nat.zero_add, List.nil_append] at ho
      rw [HA.out]
      exact ⟨v2, rfl, ho, (Below.refl w1.heap.size w1).grown hg (Nat.le_refl _) (fun k hk => by cases hk)⟩
  · have HA := Lib.hid (show d.read f = ([], d.ask f) by unfold PD.read; rw [if_pos ha])
    obtain ⟨i1, i2⟩ := int_ne ha
    generalize d.ask f = k at *
    go_enter Try.func71, Try.ntmps71
    go_wp2_with fail
    refine HM.out.mono ?_
    rintro e w1 ⟨rfl, rfl⟩
    go_wp2
    go_ret2
    rw [HA.out]
    exact ⟨_, rfl, World.ownsRow_nil _ _ _ _, Below.refl _ _⟩

set_option maxRecDepth 100000 in
set_option maxHeartbeats 2000000 in
theorem rappend_any {N g : Nat} {d : PD} {f : Int} {B : Option Addr} {m cb BB : Nat} {bs : List UInt8} {w : World} (h : RK N w g d) (hBB : BB ≤ w.heap.size) (hr : Rd w BB 1 B m cb (by8 bs)) (hm : m ≤ 17592186044416) :
    Calls Try.prog 52 #[.pointer (some ⟨g, 0, none⟩), .int .i64 f, .slice B m cb] w (ROp N g (d.append f bs) w) := by
  have HM := Lib.hid (rask_any (f := f) h)
  have hK := h
  have hml : bs.length = m := by have := hr.len; rw [by8_len] at this; omega
  by_cases ha : d.ask f = 0
  · obtain ⟨hdn, hf⟩ := ask_zero ha
    rw [ha] at HM
    have HF := Lib.hid (rfree_any h)
    by_cases hfree : d.free < m
    · have HA := Lib.hid (show d.append f bs = (3, d) by unfold PD.append; rw [if_neg (by omega), if_pos (by rw [hml]; exact hfree)])
      go_enter Try.func52, Try.ntmps52
      go_wp2_with fail
      refine HM.out.mono ?_
      rintro e w1 ⟨rfl, rfl⟩
      go_wp2_with fail
      refine HF.out.mono ?_
      rintro e w2 ⟨rfl, rfl⟩
      go_wp2
      go_ret
      rw [HA.out]
      exact ⟨rfl, hK, World.grownBy.refl _ _⟩
    · have HR := Lib.hid hr
      clear hr
      rcases hf with rfl | rfl
      · have HA := Lib.hid (show d.append 0 bs = (0, (d.put 0 (d.f0 ++ bs) d.s0).step) by unfold PD.append; rw [if_neg (by omega), if_neg (by rw [hml]; exact hfree)]; rfl)
        have hwf := hK.wf
        have hroom := hwf.room
        have hwf' := PD.put0_wf hwf (l := d.f0 ++ bs) (s := d.s0) (by unfold PD.free at hfree; rw [List.length_append]; omega) (by have := hwf.s0; rw [List.length_append]; omega)
        have hfull := hwf.full
        unfold PD.free at hfree
        obtain ⟨A0, c0, A1, c1, Ak, ck, hD⟩ := hK
        have HDL := Lib.hid hD
        have e1 : w.cell? ⟨g, 1, none⟩ = some (.slice A0 d.f0.length c0) := hD.at_ rfl
        clear hwf hD h
        go_enter Try.func52, Try.ntmps52
        go_wp2_with fail
        refine HM.out.mono ?_
        rintro e w1 ⟨rfl, rfl⟩
        go_wp2_with fail
        refine HF.out.mono ?_
        rintro e w2 ⟨rfl, rfl⟩
        unfold PD.free
        go_wp2
        refine wp_region_l (fun w' => w2.heap.size ≤ w'.heap.size ∧ Below w2.heap.size w2 w') [(true, 0), (true, 1), (true, 2), (true, 3), (true, 4), (true, 5), (true, 6), (true, 7), (true, 8), (true, 10), (true, 12), (true, 13), (false, 9), (false, 11), (true, 14), (true, 15)] [16] mixed (by kernel_rfl) ⟨Nat.le_refl _, (Below.refl _ _).drew⟩ ?_
        intro T M Q Q2 hT hT' hM hQ hQ2
        have m1 : M ⟨g, 1, none⟩ = some (.slice A0 d.f0.length c0) := hM _ _ fun w' hw => (hw.2.cell (p := ⟨g, 1, none⟩) HDL.out.lt).trans e1
        clear hM
        have t1 : 1 + Int.toNat 1 * 2 = 3 := rfl
        simp only [qcmp]
        simp (maxSteps := 5000000) only [↓qpre, qpost, qfacts, qnorm, m1, t1]
        refine ⟨by omega, ?_⟩
        refine eff_append E48 (base := w2.heap.size) rfl rfl (World.ownsRow_nil _ _ _ _) (show Rd w2.drew w2.heap.size 1 A0 d.f0.length c0 (by8 d.f0) from HDL.out.d0.drew.rd) (by8_one _) (by simp only [maxLen]; omega) (by omega) (Nat.le_refl _) ?_
        intro v3 w3 ho3 hg3 hat3
        have hb3 : Below w2.heap.size w2 w3 := ((Below.refl w2.heap.size w2).drew).grown hg3 (Nat.le_refl _) (fun k hk => by cases hk)
        refine ⟨hT _ ⟨hb3.size, hb3⟩, ?_⟩
        simp (maxSteps := 5000000) only [↓qpre, qpost, qfacts, qnorm, t1]
        refine eff_append E48 (base := w2.heap.size) rfl rfl ho3 (HR.out.below (hb3.mono hBB)) (by8_one _) (by simp only [maxLen]; omega) (by omega) hb3.size ?_
        intro v4 w4 ho4 hg4 hat4
        have hb4 : Below w2.heap.size w2 w4 := hb3.grown hg4 hb3.size (fun k hk => (ho3.lt k hk).1)
        refine ⟨hT _ ⟨hb4.size, hb4⟩, ?_⟩
        rw [Nat.zero_add, List.nil_append, ← by8_app] at ho4
        obtain ⟨A', c', rfl, hc'⟩ := ownsRow_cap ho4
        have HL4 := Lib.hid (HDL.out.below hb4)
        have HL5 := Lib.hid (HL4.out.set0 (A := A') (n := d.f0.length + m) (c := c') (l := d.f0 ++ bs) (by rw [List.length_append, hml]) (Dat.of_own ho4 hc') hwf')
        have HGR := Lib.hid ((grownBy_below hb4 (some g)).trans (set_grown w4 g 1 (.slice A' (d.f0.length + m) c')))
        clear ho3 ho4 hg3 hg4 hb3 hb4 hat3 hat4
        simp (maxSteps := 5000000) only [↓qpre, qpost, qfacts, qnorm, t1]
        refine ⟨by omega, hQ _ _ ?_⟩
        simp only [lates, List.map, qcmp]
        simp (maxSteps := 5000000) only [qpost]
        refine eff_store (v := .slice A' (d.f0.length + m) c') (b := g) (o := 1) (by kernel_rfl) rfl rfl (by rw [HL4.out.at_ (j := 1) rfl]; rfl) (HL4.out.fr 1) rfl ⟨trivial, ?_⟩
        simp (maxSteps := 5000000) only [qpost]
        refine hQ2 _ _ ?_
        clear hQ hQ2 hT hT' m1 t1
        go_wp2_with fail
        refine (rstep_any (N := N) ⟨_, _, _, _, _, _, HL5.out⟩ ((PD.put_down ..).trans hdn)).mono ?_
        rintro e w5 hop
        obtain ⟨rfl, h1, h2⟩ := hop
        go_wp2
        go_ret
        rw [HA.out]
        exact ⟨rfl, h1, HGR.out.trans h2⟩
      · have HA := Lib.hid (show d.append 1 bs = (0, (d.put 1 (d.f1 ++ bs) d.s1).step) by unfold PD.append; rw [if_neg (by omega), if_neg (by rw [hml]; exact hfree)]; rfl)
        have hwf := hK.wf
        have hroom := hwf.room
        have hwf' := PD.put1_wf hwf (l := d.f1 ++ bs) (s := d.s1) (by unfold PD.free at hfree; rw [List.length_append]; omega) (by have := hwf.s1; rw [List.length_append]; omega)
        have hfull := hwf.full
        unfold PD.free at hfree
        obtain ⟨A0, c0, A1, c1, Ak, ck, hD⟩ := hK
        have HDL := Lib.hid hD
        have e1 : w.cell? ⟨g, 3, none⟩ = some (.slice A1 d.f1.length c1) := hD.at_ rfl
        clear hwf hD h
        go_enter Try.func52, Try.ntmps52
        go_wp2_with fail
        refine HM.out.mono ?_
        rintro e w1 ⟨rfl, rfl⟩
        go_wp2_with fail
        refine HF.out.mono ?_
        rintro e w2 ⟨rfl, rfl⟩
        unfold PD.free
        go_wp2
        refine wp_region_l (fun w' => w2.heap.size ≤ w'.heap.size ∧ Below w2.heap.size w2 w') [(true, 0), (true, 1), (true, 2), (true, 3), (true, 4), (true, 5), (true, 6), (true, 7), (true, 8), (true, 10), (true, 12), (true, 13), (false, 9), (false, 11), (true, 14), (true, 15)] [16] mixed (by kernel_rfl) ⟨Nat.le_refl _, (Below.refl _ _).drew⟩ ?_
        intro T M Q Q2 hT hT' hM hQ hQ2
        have m1 : M ⟨g, 3, none⟩ = some (.slice A1 d.f1.length c1) := hM _ _ fun w' hw => (hw.2.cell (p := ⟨g, 3, none⟩) HDL.out.lt).trans e1
        clear hM
        have t1 : 1 + Int.toNat 1 * 2 = 3 := rfl
        simp only [qcmp]
        simp (maxSteps := 5000000) only [↓qpre, qpost, qfacts, qnorm, m1, t1]
        refine ⟨by omega, ?_⟩
        refine eff_append E48 (base := w2.heap.size) rfl rfl (World.ownsRow_nil _ _ _ _) (show Rd w2.drew w2.heap.size 1 A1 d.f1.length c1 (by8 d.f1) from HDL.out.d1.drew.rd) (by8_one _) (by simp only [maxLen]; omega) (by omega) (Nat.le_refl _) ?_
        intro v3 w3 ho3 hg3 hat3
        have hb3 : Below w2.heap.size w2 w3 := ((Below.refl w2.heap.size w2).drew).grown hg3 (Nat.le_refl _) (fun k hk => by cases hk)
        refine ⟨hT _ ⟨hb3.size, hb3⟩, ?_⟩
        simp (maxSteps := 5000000) only [↓qpre, qpost, qfacts, qnorm, t1]
        refine eff_append E48 (base := w2.heap.size) rfl rfl ho3 (HR.out.below (hb3.mono hBB)) (by8_one _) (by simp only [maxLen]; omega) (by omega) hb3.size ?_
        intro v4 w4 ho4 hg4 hat4
        have hb4 : Below w2.heap.size w2 w4 := hb3.grown hg4 hb3.size (fun k hk => (ho3.lt k hk).1)
        refine ⟨hT _ ⟨hb4.size, hb4⟩, ?_⟩
        rw [Nat.zero_add, List.nil_append, ← by8_app] at ho4
        obtain ⟨A', c', rfl, hc'⟩ := ownsRow_cap ho4
        have HL4 := Lib.hid (HDL.out.below hb4)
        have HL5 := Lib.hid (HL4.out.set1 (A := A') (n := d.f1.length + m) (c := c') (l := d.f1 ++ bs) (by rw [List.length_append, hml]) (Dat.of_own ho4 hc') hwf')
        have HGR := Lib.hid ((grownBy_below hb4 (some g)).trans (set_grown w4 g 3 (.slice A' (d.f1.length + m) c')))
        clear ho3 ho4 hg3 hg4 hb3 hb4 hat3 hat4
        simp (maxSteps := 5000000) only [↓qpre, qpost, qfacts, qnorm, t1]
        refine ⟨by omega, hQ _ _ ?_⟩
        simp only [lates, List.map, qcmp]
        simp (maxSteps := 5000000) only [qpost]
        refine eff_store (v := .slice A' (d.f1.length + m) c') (b := g) (o := 3) (by kernel_rfl) rfl rfl (by rw [HL4.out.at_ (j := 3) rfl]; rfl) (HL4.out.fr 3) rfl ⟨trivial, ?_⟩
        simp (maxSteps := 5000000) only [qpost]
        refine hQ2 _ _ ?_
        clear hQ hQ2 hT hT' m1 t1
        go_wp2_with fail
        refine (rstep_any (N := N) ⟨_, _, _, _, _, _, HL5.out⟩ ((PD.put_down ..).trans hdn)).mono ?_
        rintro e w5 hop
        obtain ⟨rfl, h1, h2⟩ := hop
        go_wp2
        go_ret
        rw [HA.out]
        exact ⟨rfl, h1, HGR.out.trans h2⟩
  · have HA := Lib.hid (show d.append f bs = (d.ask f, d) by unfold PD.append; rw [if_pos ha])
    obtain ⟨i1, i2⟩ := int_ne ha
    generalize d.ask f = k at *
    go_enter Try.func52, Try.ntmps52
    go_wp2_with fail
    refine HM.out.mono ?_
    rintro e w1 ⟨rfl, rfl⟩
    go_wp2
    go_ret
    rw [HA.out]
    exact ⟨rfl, hK, World.grownBy.refl _ _⟩

end Go.Proofs.Ytabiegbbbljhlaa
