/- Walk: the document's disk: Restart. -/
import Derived.Test.YtabiegbbbljhlaaQ2
namespace Go.Proofs.Ytabiegbbbljhlaa
open Go.RowKit

theorem run_build95 (w : World) (x : Int) (A : Option Addr) (n c : Nat) :
    (Instr.build 95 #[(0, .slice A n c), (1, .int .i64 x)]).run Try.prog w = .ok (.agg #[.slice A n c, .int .i64 x]) w := by
  go_simp
theorem rdk_zero {d : PD} (h : d.room ≤ 1000000) : PD.new d.room = rdk d 0 := by
  unfold PD.new rdk
  rw [show (min (max (d.room : Int) 0) 1000000).toNat = d.room by omega]
  rfl
theorem rdk_two (d : PD) : rdk d 2 = d.restart := rfl

set_option maxRecDepth 100000 in
set_option maxHeartbeats 8000000 in
theorem rrestart_any {N g : Nat} {d : PD} {w : World} (h : RK N w g d) (hN : N ≤ w.heap.size) : Calls Try.prog 50 #[.pointer (some ⟨g, 0, none⟩)] w (RNew N d.restart w) := by
  have hlt := h.lt
  have hwf := h.wf
  have hroom := hwf.room
  have hfull := hwf.full
  have hs0 := hwf.s0
  have hs1 := hwf.s1
  have hkl := hwf.kl
  have HWF := Lib.hid (fun k => rdk_wf hwf k)
  have HKB := Lib.hid hwf.keep
  obtain ⟨A0, c0, A1, c1, Ak, ck, hD⟩ := h
  have q0 := hD.d0.cap
  have q1 := hD.d1.cap
  have e0 : w.cell? ⟨g, 0, none⟩ = some (.int .i64 d.room) := hD.at_ rfl
  have HD := Lib.hid hD
  clear hD hwf
  go_enter Try.func50, Try.ntmps50
  go_wp2_with fail
  refine (rnew_any (N := N) hN).mono ?_
  rw [rdk_zero hroom]
  rintro e w1 ⟨x, rfl, hKx, hgx, hbx⟩
  have HX0 := Lib.hid hKx
  have HB0 := Lib.hid hbx
  have HGX := Lib.hid hgx
  clear hKx hbx e0 hN
  go_wp2
  go_loopw [4] (fun i wr => ∃ k : Nat, k ≤ 2 ∧ i = .int .i64 k ∧ Hid (RK N wr x (rdk d k)) ∧ Hid (Below w.heap.size w wr)) (fun i _ => 2 - (intOf i).toNat)
  case atStart => exact ⟨0, by omega, rfl, HX0, HB0⟩
  case round =>
    clear HX0 HB0
    obtain ⟨k, hk, rfl, HL, HB⟩ := hrel
    have hws := HB.out.size
    obtain ⟨B0, b0, B1, b1, Bk, bk, hL⟩ := HL.out
    have HLL := Lib.hid hL
    clear hL HL
    have HDW := Lib.hid (HD.out.below HB.out)
    obtain rfl | rfl | rfl : k = 0 ∨ k = 1 ∨ k = 2 := by omega
    · rw [show ((0 : Nat) : Int) = 0 from rfl]
      have e1 : wr.cell? ⟨g, 1, none⟩ = some (.slice A0 d.f0.length c0) := HDW.out.at_ rfl
      have e2 : wr.cell? ⟨g, 2, none⟩ = some (.int .i64 d.s0) := HDW.out.at_ rfl
      have e5 : wr.cell? ⟨g, 5, none⟩ = some (.bool d.armed) := HDW.out.at_ rfl
      have e7 : wr.cell? ⟨g, 7, none⟩ = some (.slice Ak d.keep.length ck) := HDW.out.at_ rfl
      have hkle := kept_le d 0 hs0
      have hkge := kept_ge d 0 d.f0 d.s0
      have hlen0 : (d.f0.take (d.kept 0 d.f0 d.s0)).length = d.kept 0 d.f0 d.s0 := by rw [List.length_take]; omega
      have HDF := Lib.hid (show Dat N 5 wr A0 (d.kept 0 d.f0 d.s0) c0 (by8 (d.f0.take (d.kept 0 d.f0 d.s0))) from by rw [by8_take]; exact HDW.out.d0.head hkle _ (by omega))
      have HKD := Lib.hid HDW.out.dk
      have TN : ∀ n : Nat, (n : Int).toNat = n := fun n => rfl
      cases har : d.armed
      · rw [har] at e5
        have hkp := kept_no (i := 0) d.f0 d.s0 har
        rw [hkp] at HDF hlen0
        have HDK := HDF
        have hlen := hlen0
        clear HDF
        go_wp2
        refine wp_region_l (fun w' => wr.heap.size ≤ w'.heap.size ∧ Below wr.heap.size wr w') [(true, 0), (true, 1), (true, 2), (true, 3), (true, 4), (true, 5), (true, 6), (true, 7), (true, 8), (true, 9), (true, 10), (true, 12), (true, 14), (true, 15), (false, 11), (false, 13), (true, 16)] [17] mixed (by kernel_rfl) ⟨Nat.le_refl _, (Below.refl _ _).drew⟩ ?_
        intro T M Q Q2 hT hT' hM hQ hQ2
        have m1 : M ⟨g, 1, none⟩ = some (.slice A0 d.f0.length c0) := hM _ _ fun w' hw => (hw.2.cell (p := ⟨g, 1, none⟩) HDW.out.lt).trans e1
        clear hM
        have t1 : 1 + Int.toNat 1 * 2 = 3 := rfl
        have t2 : 3 + 1 = 4 := rfl
        have t4 : 1 + 1 = 2 := rfl
        simp only [qcmp]
        simp (maxSteps := 5000000) only [↓qpre, qpost, qfacts, qnorm, m1, t1, t2, t4, sliced, addr0, Nat.sub_zero, TN]
        refine ⟨by omega, by omega, ?_⟩
        refine eff_append E48 (base := wr.heap.size) rfl rfl (World.ownsRow_nil _ _ _ _) (show Rd wr.drew wr.heap.size 1 A0 (d.s0) c0 (by8 (d.f0.take (d.s0))) from HDK.out.drew.rd) (by8_one _) (by simp only [maxLen]; omega) (by omega) (Nat.le_refl _) ?_
        intro v3 w3 ho3 hg3 hat3
        have hb3 : Below wr.heap.size wr w3 := ((Below.refl wr.heap.size wr).drew).grown hg3 (Nat.le_refl _) (fun k hk => by cases hk)
        refine ⟨hT _ ⟨hb3.size, hb3⟩, ?_⟩
        rw [Nat.zero_add, List.nil_append] at ho3
        obtain ⟨A', c', rfl, hc'⟩ := ownsRow_cap ho3
        have HL4 := Lib.hid (HLL.out.below hb3)
        have HN := Lib.hid (HL4.out.file0 (d' := rdk d 1) (A := A') (n := d.s0) (c := c') (l := d.f0.take (d.s0)) (s := ((d.s0 : Nat) : Int)) (s' := d.s0) hlen (Dat.of_own ho3 hc') rfl (by simp [rdk, PD.put, hkp]) (HWF.out 1))
        have HBW := HB.out.trans (hb3.mono hws)
        have HBN := Lib.hid ((HBW.grown (set_grown w3 x 1 (.slice A' (d.s0) c')) HBW.size (fun g hg => by cases hg; exact HGX.out)).grown (set_grown _ x 2 (.int .i64 ((d.s0 : Nat) : Int))) (by rw [show (w3.setCell ⟨x, 1, none⟩ (.slice A' (d.s0) c')).heap.size = w3.heap.size by simp]; exact HBW.size) (fun g hg => by cases hg; exact HGX.out))
        have HB3 := Lib.hid hb3
        clear ho3 hg3 hb3 hat3 HBW
        simp (maxSteps := 5000000) only [qpost, qnorm]
        refine eff_buildN rfl (run_build95 _ _ _ _ _) ⟨hT _ ⟨HB3.out.size, HB3.out⟩, ?_⟩
        simp (maxSteps := 5000000) only [↓qpre, qpost, qfacts, qnorm, t1, t2, t4]
        refine ⟨by omega, hQ _ _ ?_⟩
        simp only [lates, List.map, qcmp]
        simp (maxSteps := 5000000) only [qpost]
        refine eff_store2 (u0 := .slice A' (d.s0) c') (u1 := .int .i64 ((d.s0 : Nat) : Int)) (b := x) (o := 1) (by kernel_rfl) rfl rfl (by rw [HL4.out.at_ (j := 1) rfl]; rfl) (by rw [show 1 + 1 = 2 from rfl, HL4.out.at_ (j := 2) rfl]; rfl) (HL4.out.fr 1) (HL4.out.fr 2) rfl rfl ⟨trivial, ?_⟩
        simp (maxSteps := 5000000) only [qpost]
        refine hQ2 _ _ ?_
        clear hQ hQ2 hT hT' m1 t1 t2 t4
        go_wp2
        exact ⟨⟨1, by omega, rfl, Lib.hid ⟨_, _, _, _, _, _, HN.out⟩, HBN⟩, by simp [intOf]⟩
      · rw [har] at e5
        by_cases hi : 0 < d.keep.length
        · have hkv := List.getElem?_eq_getElem hi
          obtain ⟨kl, ku⟩ := HKB.out _ (List.getElem_mem hi)
          generalize d.keep[0] = kv at *
          obtain ⟨bk', ok, rfl, _, _, hcel⟩ := HKD.out.at_ (by omega)
          have y0 := hcel 0 (.int .i64 kv) (by simp [i64s, List.getElem?_map, hkv])
          have HKP := Lib.hid (kept_arm d.f0 d.s0 har hkv)
          obtain ⟨q, hq⟩ : ∃ q : Nat, d.kept 0 d.f0 d.s0 = d.s0 + q := ⟨d.kept 0 d.f0 d.s0 - d.s0, by omega⟩
          have hv : max 0 (min kv ((d.f0.length : Int) - (d.s0 : Nat))) = (q : Int) := by
            have h1 := HKP.out
            rw [hq] at h1
            have h0 : 0 ≤ min (max kv 0) ((d.f0.length : Int) - (d.s0 : Nat)) := by omega
            have h2 := Int.toNat_of_nonneg h0
            omega
          have HV := Lib.hid hv
          rw [hq] at HDF hlen0 hkle
          have HQ := Lib.hid hq
          have HDK := HDF
          have hlen := hlen0
          clear hcel hv hkv HDF hkge hq HKP
          go_wp2
          refine wp_region_q (fun w' => ∀ p : Addr, w'.cell? p = wr.cell? p) (qs 26) mixed (by kernel_rfl) (fun p => rfl) ?_
          intro T M Q hT hT' hM hQ
          have m1 : M ⟨g, 7, none⟩ = some (.slice (some ⟨bk', ok, none⟩) d.keep.length ck) := hM _ _ fun w' hw => (hw _).trans e7
          have m2 : M ⟨bk', ok, none⟩ = some (.int .i64 kv) := hM _ _ fun w' hw => (hw _).trans y0
          have m3 : M ⟨g, 1, none⟩ = some (.slice A0 d.f0.length c0) := hM _ _ fun w' hw => (hw _).trans e1
          have m4 : M ⟨g, 2, none⟩ = some (.int .i64 d.s0) := hM _ _ fun w' hw => (hw _).trans e2
          clear hM
          have u1 : Int.toNat 1 = 1 := rfl
          have u0 : Int.toNat 0 = 0 := rfl
          have t1 : 1 + Int.toNat 1 * 2 = 3 := rfl
          have t2 : 3 + 1 = 4 := rfl
          have t4 : 1 + 1 = 2 := rfl
          simp only [qcmp]
          simp (maxSteps := 5000000) only [↓qpre, qpost, qfacts, qnorm, m1, m2, m3, m4, u0, u1, t1, t2, t4]
          refine ⟨by omega, by omega, by omega, by unfold inI64; omega, hQ _ _ ?_⟩
          clear hQ hT hT' m1 m2 m3 m4 u0 u1 t1 t2 t4
          rw [HV.out]
          generalize min kv ((d.f0.length : Int) - (d.s0 : Nat)) = mn at *
          go_wp2
          rw [show (q : Int) + (d.s0 : Nat) = ((d.s0 + q : Nat) : Int) by omega]
          refine wp_region_l (fun w' => wr.heap.size ≤ w'.heap.size ∧ Below wr.heap.size wr w') [(true, 0), (true, 1), (true, 2), (true, 3), (true, 4), (true, 5), (true, 6), (true, 7), (true, 8), (true, 9), (true, 10), (true, 12), (true, 14), (true, 15), (false, 11), (false, 13), (true, 16)] [17] mixed (by kernel_rfl) ⟨Nat.le_refl _, (Below.refl _ _).drew.drew⟩ ?_
          intro T M Q Q2 hT hT' hM hQ hQ2
          have m1 : M ⟨g, 1, none⟩ = some (.slice A0 d.f0.length c0) := hM _ _ fun w' hw => (hw.2.cell (p := ⟨g, 1, none⟩) HDW.out.lt).trans e1
          clear hM
          have t1 : 1 + Int.toNat 1 * 2 = 3 := rfl
          have t2 : 3 + 1 = 4 := rfl
          have t4 : 1 + 1 = 2 := rfl
          simp only [qcmp]
          simp (maxSteps := 5000000) only [↓qpre, qpost, qfacts, qnorm, m1, t1, t2, t4, sliced, addr0, Nat.sub_zero, TN]
          refine ⟨by omega, by omega, ?_⟩
          refine eff_append E48 (base := wr.heap.size) rfl rfl (World.ownsRow_nil _ _ _ _) (show Rd wr.drew.drew wr.heap.size 1 A0 (d.s0 + q) c0 (by8 (d.f0.take (d.s0 + q))) from HDK.out.drew.drew.rd) (by8_one _) (by simp only [maxLen]; omega) (by omega) (Nat.le_refl _) ?_
          intro v3 w3 ho3 hg3 hat3
          have hb3 : Below wr.heap.size wr w3 := ((Below.refl wr.heap.size wr).drew.drew).grown hg3 (Nat.le_refl _) (fun k hk => by cases hk)
          refine ⟨hT _ ⟨hb3.size, hb3⟩, ?_⟩
          rw [Nat.zero_add, List.nil_append] at ho3
          obtain ⟨A', c', rfl, hc'⟩ := ownsRow_cap ho3
          have HL4 := Lib.hid (HLL.out.below hb3)
          have HN := Lib.hid (HL4.out.file0 (d' := rdk d 1) (A := A') (n := d.s0 + q) (c := c') (l := d.f0.take (d.s0 + q)) (s := ((d.s0 + q : Nat) : Int)) (s' := d.s0 + q) hlen (Dat.of_own ho3 hc') rfl (by simp [rdk, PD.put, HQ.out]) (HWF.out 1))
          have HBW := HB.out.trans (hb3.mono hws)
          have HBN := Lib.hid ((HBW.grown (set_grown w3 x 1 (.slice A' (d.s0 + q) c')) HBW.size (fun g hg => by cases hg; exact HGX.out)).grown (set_grown _ x 2 (.int .i64 ((d.s0 + q : Nat) : Int))) (by rw [show (w3.setCell ⟨x, 1, none⟩ (.slice A' (d.s0 + q) c')).heap.size = w3.heap.size by simp]; exact HBW.size) (fun g hg => by cases hg; exact HGX.out))
          have HB3 := Lib.hid hb3
          clear ho3 hg3 hb3 hat3 HBW
          simp (maxSteps := 5000000) only [qpost, qnorm]
          refine eff_buildN rfl (run_build95 _ _ _ _ _) ⟨hT _ ⟨HB3.out.size, HB3.out⟩, ?_⟩
          simp (maxSteps := 5000000) only [↓qpre, qpost, qfacts, qnorm, t1, t2, t4]
          refine ⟨by omega, hQ _ _ ?_⟩
          simp only [lates, List.map, qcmp]
          simp (maxSteps := 5000000) only [qpost]
          refine eff_store2 (u0 := .slice A' (d.s0 + q) c') (u1 := .int .i64 ((d.s0 + q : Nat) : Int)) (b := x) (o := 1) (by kernel_rfl) rfl rfl (by rw [HL4.out.at_ (j := 1) rfl]; rfl) (by rw [show 1 + 1 = 2 from rfl, HL4.out.at_ (j := 2) rfl]; rfl) (HL4.out.fr 1) (HL4.out.fr 2) rfl rfl ⟨trivial, ?_⟩
          simp (maxSteps := 5000000) only [qpost]
          refine hQ2 _ _ ?_
          clear hQ hQ2 hT hT' m1 t1 t2 t4
          go_wp2
          exact ⟨⟨1, by omega, rfl, Lib.hid ⟨_, _, _, _, _, _, HN.out⟩, HBN⟩, by simp [intOf]⟩
        · have hkp := kept_out (d := d) (i := 0) d.f0 d.s0 (by omega)
          rw [hkp] at HDF hlen0
          have HDK := HDF
          have hlen := hlen0
          clear HDF
          go_wp2
          refine wp_region_l (fun w' => wr.heap.size ≤ w'.heap.size ∧ Below wr.heap.size wr w') [(true, 0), (true, 1), (true, 2), (true, 3), (true, 4), (true, 5), (true, 6), (true, 7), (true, 8), (true, 9), (true, 10), (true, 12), (true, 14), (true, 15), (false, 11), (false, 13), (true, 16)] [17] mixed (by kernel_rfl) ⟨Nat.le_refl _, (Below.refl _ _).drew⟩ ?_
          intro T M Q Q2 hT hT' hM hQ hQ2
          have m1 : M ⟨g, 1, none⟩ = some (.slice A0 d.f0.length c0) := hM _ _ fun w' hw => (hw.2.cell (p := ⟨g, 1, none⟩) HDW.out.lt).trans e1
          clear hM
          have t1 : 1 + Int.toNat 1 * 2 = 3 := rfl
          have t2 : 3 + 1 = 4 := rfl
          have t4 : 1 + 1 = 2 := rfl
          simp only [qcmp]
          simp (maxSteps := 5000000) only [↓qpre, qpost, qfacts, qnorm, m1, t1, t2, t4, sliced, addr0, Nat.sub_zero, TN]
          refine ⟨by omega, by omega, ?_⟩
          refine eff_append E48 (base := wr.heap.size) rfl rfl (World.ownsRow_nil _ _ _ _) (show Rd wr.drew wr.heap.size 1 A0 (d.s0) c0 (by8 (d.f0.take (d.s0))) from HDK.out.drew.rd) (by8_one _) (by simp only [maxLen]; omega) (by omega) (Nat.le_refl _) ?_
          intro v3 w3 ho3 hg3 hat3
          have hb3 : Below wr.heap.size wr w3 := ((Below.refl wr.heap.size wr).drew).grown hg3 (Nat.le_refl _) (fun k hk => by cases hk)
          refine ⟨hT _ ⟨hb3.size, hb3⟩, ?_⟩
          rw [Nat.zero_add, List.nil_append] at ho3
          obtain ⟨A', c', rfl, hc'⟩ := ownsRow_cap ho3
          have HL4 := Lib.hid (HLL.out.below hb3)
          have HN := Lib.hid (HL4.out.file0 (d' := rdk d 1) (A := A') (n := d.s0) (c := c') (l := d.f0.take (d.s0)) (s := ((d.s0 : Nat) : Int)) (s' := d.s0) hlen (Dat.of_own ho3 hc') rfl (by simp [rdk, PD.put, hkp]) (HWF.out 1))
          have HBW := HB.out.trans (hb3.mono hws)
          have HBN := Lib.hid ((HBW.grown (set_grown w3 x 1 (.slice A' (d.s0) c')) HBW.size (fun g hg => by cases hg; exact HGX.out)).grown (set_grown _ x 2 (.int .i64 ((d.s0 : Nat) : Int))) (by rw [show (w3.setCell ⟨x, 1, none⟩ (.slice A' (d.s0) c')).heap.size = w3.heap.size by simp]; exact HBW.size) (fun g hg => by cases hg; exact HGX.out))
          have HB3 := Lib.hid hb3
          clear ho3 hg3 hb3 hat3 HBW
          simp (maxSteps := 5000000) only [qpost, qnorm]
          refine eff_buildN rfl (run_build95 _ _ _ _ _) ⟨hT _ ⟨HB3.out.size, HB3.out⟩, ?_⟩
          simp (maxSteps := 5000000) only [↓qpre, qpost, qfacts, qnorm, t1, t2, t4]
          refine ⟨by omega, hQ _ _ ?_⟩
          simp only [lates, List.map, qcmp]
          simp (maxSteps := 5000000) only [qpost]
          refine eff_store2 (u0 := .slice A' (d.s0) c') (u1 := .int .i64 ((d.s0 : Nat) : Int)) (b := x) (o := 1) (by kernel_rfl) rfl rfl (by rw [HL4.out.at_ (j := 1) rfl]; rfl) (by rw [show 1 + 1 = 2 from rfl, HL4.out.at_ (j := 2) rfl]; rfl) (HL4.out.fr 1) (HL4.out.fr 2) rfl rfl ⟨trivial, ?_⟩
          simp (maxSteps := 5000000) only [qpost]
          refine hQ2 _ _ ?_
          clear hQ hQ2 hT hT' m1 t1 t2 t4
          go_wp2
          exact ⟨⟨1, by omega, rfl, Lib.hid ⟨_, _, _, _, _, _, HN.out⟩, HBN⟩, by simp [intOf]⟩
    · rw [show ((1 : Nat) : Int) = 1 from rfl]
      have e1 : wr.cell? ⟨g, 3, none⟩ = some (.slice A1 d.f1.length c1) := HDW.out.at_ rfl
      have e2 : wr.cell? ⟨g, 4, none⟩ = some (.int .i64 d.s1) := HDW.out.at_ rfl
      have e5 : wr.cell? ⟨g, 5, none⟩ = some (.bool d.armed) := HDW.out.at_ rfl
      have e7 : wr.cell? ⟨g, 7, none⟩ = some (.slice Ak d.keep.length ck) := HDW.out.at_ rfl
      have hkle := kept_le d 1 hs1
      have hkge := kept_ge d 1 d.f1 d.s1
      have hlen0 : (d.f1.take (d.kept 1 d.f1 d.s1)).length = d.kept 1 d.f1 d.s1 := by rw [List.length_take]; omega
      have HDF := Lib.hid (show Dat N 5 wr A1 (d.kept 1 d.f1 d.s1) c1 (by8 (d.f1.take (d.kept 1 d.f1 d.s1))) from by rw [by8_take]; exact HDW.out.d1.head hkle _ (by omega))
      have HKD := Lib.hid HDW.out.dk
      have TN : ∀ n : Nat, (n : Int).toNat = n := fun n => rfl
      cases har : d.armed
      · rw [har] at e5
        have hkp := kept_no (i := 1) d.f1 d.s1 har
        rw [hkp] at HDF hlen0
        have HDK := HDF
        have hlen := hlen0
        clear HDF
        go_wp2
        refine wp_region_l (fun w' => wr.heap.size ≤ w'.heap.size ∧ Below wr.heap.size wr w') [(true, 0), (true, 1), (true, 2), (true, 3), (true, 4), (true, 5), (true, 6), (true, 7), (true, 8), (true, 9), (true, 10), (true, 12), (true, 14), (true, 15), (false, 11), (false, 13), (true, 16)] [17] mixed (by kernel_rfl) ⟨Nat.le_refl _, (Below.refl _ _).drew⟩ ?_
        intro T M Q Q2 hT hT' hM hQ hQ2
        have m1 : M ⟨g, 3, none⟩ = some (.slice A1 d.f1.length c1) := hM _ _ fun w' hw => (hw.2.cell (p := ⟨g, 3, none⟩) HDW.out.lt).trans e1
        clear hM
        have t1 : 1 + Int.toNat 1 * 2 = 3 := rfl
        have t2 : 3 + 1 = 4 := rfl
        have t4 : 1 + 1 = 2 := rfl
        simp only [qcmp]
        simp (maxSteps := 5000000) only [↓qpre, qpost, qfacts, qnorm, m1, t1, t2, t4, sliced, addr0, Nat.sub_zero, TN]
        refine ⟨by omega, by omega, ?_⟩
        refine eff_append E48 (base := wr.heap.size) rfl rfl (World.ownsRow_nil _ _ _ _) (show Rd wr.drew wr.heap.size 1 A1 (d.s1) c1 (by8 (d.f1.take (d.s1))) from HDK.out.drew.rd) (by8_one _) (by simp only [maxLen]; omega) (by omega) (Nat.le_refl _) ?_
        intro v3 w3 ho3 hg3 hat3
        have hb3 : Below wr.heap.size wr w3 := ((Below.refl wr.heap.size wr).drew).grown hg3 (Nat.le_refl _) (fun k hk => by cases hk)
        refine ⟨hT _ ⟨hb3.size, hb3⟩, ?_⟩
        rw [Nat.zero_add, List.nil_append] at ho3
        obtain ⟨A', c', rfl, hc'⟩ := ownsRow_cap ho3
        have HL4 := Lib.hid (HLL.out.below hb3)
        have HN := Lib.hid (HL4.out.file1 (d' := rdk d 2) (A := A') (n := d.s1) (c := c') (l := d.f1.take (d.s1)) (s := ((d.s1 : Nat) : Int)) (s' := d.s1) hlen (Dat.of_own ho3 hc') rfl (by simp [rdk, PD.put, hkp]) (HWF.out 2))
        have HBW := HB.out.trans (hb3.mono hws)
        have HBN := Lib.hid ((HBW.grown (set_grown w3 x 3 (.slice A' (d.s1) c')) HBW.size (fun g hg => by cases hg; exact HGX.out)).grown (set_grown _ x 4 (.int .i64 ((d.s1 : Nat) : Int))) (by rw [show (w3.setCell ⟨x, 3, none⟩ (.slice A' (d.s1) c')).heap.size = w3.heap.size by simp]; exact HBW.size) (fun g hg => by cases hg; exact HGX.out))
        have HB3 := Lib.hid hb3
        clear ho3 hg3 hb3 hat3 HBW
        simp (maxSteps := 5000000) only [qpost, qnorm]
        refine eff_buildN rfl (run_build95 _ _ _ _ _) ⟨hT _ ⟨HB3.out.size, HB3.out⟩, ?_⟩
        simp (maxSteps := 5000000) only [↓qpre, qpost, qfacts, qnorm, t1, t2, t4]
        refine ⟨by omega, hQ _ _ ?_⟩
        simp only [lates, List.map, qcmp]
        simp (maxSteps := 5000000) only [qpost]
        refine eff_store2 (u0 := .slice A' (d.s1) c') (u1 := .int .i64 ((d.s1 : Nat) : Int)) (b := x) (o := 3) (by kernel_rfl) rfl rfl (by rw [HL4.out.at_ (j := 3) rfl]; rfl) (by rw [show 3 + 1 = 4 from rfl, HL4.out.at_ (j := 4) rfl]; rfl) (HL4.out.fr 3) (HL4.out.fr 4) rfl rfl ⟨trivial, ?_⟩
        simp (maxSteps := 5000000) only [qpost]
        refine hQ2 _ _ ?_
        clear hQ hQ2 hT hT' m1 t1 t2 t4
        go_wp2
        exact ⟨⟨2, by omega, rfl, Lib.hid ⟨_, _, _, _, _, _, HN.out⟩, HBN⟩, by simp [intOf]⟩
      · rw [har] at e5
        by_cases hi : 1 < d.keep.length
        · have hkv := List.getElem?_eq_getElem hi
          obtain ⟨kl, ku⟩ := HKB.out _ (List.getElem_mem hi)
          generalize d.keep[1] = kv at *
          obtain ⟨bk', ok, rfl, _, _, hcel⟩ := HKD.out.at_ (by omega)
          have y0 := hcel 1 (.int .i64 kv) (by simp [i64s, List.getElem?_map, hkv])
          have HKP := Lib.hid (kept_arm d.f1 d.s1 har hkv)
          obtain ⟨q, hq⟩ : ∃ q : Nat, d.kept 1 d.f1 d.s1 = d.s1 + q := ⟨d.kept 1 d.f1 d.s1 - d.s1, by omega⟩
          have hv : max 0 (min kv ((d.f1.length : Int) - (d.s1 : Nat))) = (q : Int) := by
            have h1 := HKP.out
            rw [hq] at h1
            have h0 : 0 ≤ min (max kv 0) ((d.f1.length : Int) - (d.s1 : Nat)) := by omega
            have h2 := Int.toNat_of_nonneg h0
            omega
          have HV := Lib.hid hv
          rw [hq] at HDF hlen0 hkle
          have HQ := Lib.hid hq
          have HDK := HDF
          have hlen := hlen0
          clear hcel hv hkv HDF hkge hq HKP
          go_wp2
          refine wp_region_q (fun w' => ∀ p : Addr, w'.cell? p = wr.cell? p) (qs 26) mixed (by kernel_rfl) (fun p => rfl) ?_
          intro T M Q hT hT' hM hQ
          have m1 : M ⟨g, 7, none⟩ = some (.slice (some ⟨bk', ok, none⟩) d.keep.length ck) := hM _ _ fun w' hw => (hw _).trans e7
          have m2 : M ⟨bk', ok + 1, none⟩ = some (.int .i64 kv) := hM _ _ fun w' hw => (hw _).trans y0
          have m3 : M ⟨g, 3, none⟩ = some (.slice A1 d.f1.length c1) := hM _ _ fun w' hw => (hw _).trans e1
          have m4 : M ⟨g, 4, none⟩ = some (.int .i64 d.s1) := hM _ _ fun w' hw => (hw _).trans e2
          clear hM
          have u1 : Int.toNat 1 = 1 := rfl
          have u0 : Int.toNat 0 = 0 := rfl
          have t1 : 1 + Int.toNat 1 * 2 = 3 := rfl
          have t2 : 3 + 1 = 4 := rfl
          have t4 : 1 + 1 = 2 := rfl
          simp only [qcmp]
          simp (maxSteps := 5000000) only [↓qpre, qpost, qfacts, qnorm, m1, m2, m3, m4, u0, u1, t1, t2, t4]
          refine ⟨by omega, by omega, by omega, by unfold inI64; omega, hQ _ _ ?_⟩
          clear hQ hT hT' m1 m2 m3 m4 u0 u1 t1 t2 t4
          rw [HV.out]
          generalize min kv ((d.f1.length : Int) - (d.s1 : Nat)) = mn at *
          go_wp2
          rw [show (q : Int) + (d.s1 : Nat) = ((d.s1 + q : Nat) : Int) by omega]
          refine wp_region_l (fun w' => wr.heap.size ≤ w'.heap.size ∧ Below wr.heap.size wr w') [(true, 0), (true, 1), (true, 2), (true, 3), (true, 4), (true, 5), (true, 6), (true, 7), (true, 8), (true, 9), (true, 10), (true, 12), (true, 14), (true, 15), (false, 11), (false, 13), (true, 16)] [17] mixed (by kernel_rfl) ⟨Nat.le_refl _, (Below.refl _ _).drew.drew⟩ ?_
          intro T M Q Q2 hT hT' hM hQ hQ2
          have m1 : M ⟨g, 3, none⟩ = some (.slice A1 d.f1.length c1) := hM _ _ fun w' hw => (hw.2.cell (p := ⟨g, 3, none⟩) HDW.out.lt).trans e1
          clear hM
          have t1 : 1 + Int.toNat 1 * 2 = 3 := rfl
          have t2 : 3 + 1 = 4 := rfl
          have t4 : 1 + 1 = 2 := rfl
          simp only [qcmp]
          simp (maxSteps := 5000000) only [↓qpre, qpost, qfacts, qnorm, m1, t1, t2, t4, sliced, addr0, Nat.sub_zero, TN]
          refine ⟨by omega, by omega, ?_⟩
          refine eff_append E48 (base := wr.heap.size) rfl rfl (World.ownsRow_nil _ _ _ _) (show Rd wr.drew.drew wr.heap.size 1 A1 (d.s1 + q) c1 (by8 (d.f1.take (d.s1 + q))) from HDK.out.drew.drew.rd) (by8_one _) (by simp only [maxLen]; omega) (by omega) (Nat.le_refl _) ?_
          intro v3 w3 ho3 hg3 hat3
          have hb3 : Below wr.heap.size wr w3 := ((Below.refl wr.heap.size wr).drew.drew).grown hg3 (Nat.le_refl _) (fun k hk => by cases hk)
          refine ⟨hT _ ⟨hb3.size, hb3⟩, ?_⟩
          rw [Nat.zero_add, List.nil_append] at ho3
          obtain ⟨A', c', rfl, hc'⟩ := ownsRow_cap ho3
          have HL4 := Lib.hid (HLL.out.below hb3)
          have HN := Lib.hid (HL4.out.file1 (d' := rdk d 2) (A := A') (n := d.s1 + q) (c := c') (l := d.f1.take (d.s1 + q)) (s := ((d.s1 + q : Nat) : Int)) (s' := d.s1 + q) hlen (Dat.of_own ho3 hc') rfl (by simp [rdk, PD.put, HQ.out]) (HWF.out 2))
          have HBW := HB.out.trans (hb3.mono hws)
          have HBN := Lib.hid ((HBW.grown (set_grown w3 x 3 (.slice A' (d.s1 + q) c')) HBW.size (fun g hg => by cases hg; exact HGX.out)).grown (set_grown _ x 4 (.int .i64 ((d.s1 + q : Nat) : Int))) (by rw [show (w3.setCell ⟨x, 3, none⟩ (.slice A' (d.s1 + q) c')).heap.size = w3.heap.size by simp]; exact HBW.size) (fun g hg => by cases hg; exact HGX.out))
          have HB3 := Lib.hid hb3
          clear ho3 hg3 hb3 hat3 HBW
          simp (maxSteps := 5000000) only [qpost, qnorm]
          refine eff_buildN rfl (run_build95 _ _ _ _ _) ⟨hT _ ⟨HB3.out.size, HB3.out⟩, ?_⟩
          simp (maxSteps := 5000000) only [↓qpre, qpost, qfacts, qnorm, t1, t2, t4]
          refine ⟨by omega, hQ _ _ ?_⟩
          simp only [lates, List.map, qcmp]
          simp (maxSteps := 5000000) only [qpost]
          refine eff_store2 (u0 := .slice A' (d.s1 + q) c') (u1 := .int .i64 ((d.s1 + q : Nat) : Int)) (b := x) (o := 3) (by kernel_rfl) rfl rfl (by rw [HL4.out.at_ (j := 3) rfl]; rfl) (by rw [show 3 + 1 = 4 from rfl, HL4.out.at_ (j := 4) rfl]; rfl) (HL4.out.fr 3) (HL4.out.fr 4) rfl rfl ⟨trivial, ?_⟩
          simp (maxSteps := 5000000) only [qpost]
          refine hQ2 _ _ ?_
          clear hQ hQ2 hT hT' m1 t1 t2 t4
          go_wp2
          exact ⟨⟨2, by omega, rfl, Lib.hid ⟨_, _, _, _, _, _, HN.out⟩, HBN⟩, by simp [intOf]⟩
        · have hkp := kept_out (d := d) (i := 1) d.f1 d.s1 (by omega)
          rw [hkp] at HDF hlen0
          have HDK := HDF
          have hlen := hlen0
          clear HDF
          go_wp2
          refine wp_region_l (fun w' => wr.heap.size ≤ w'.heap.size ∧ Below wr.heap.size wr w') [(true, 0), (true, 1), (true, 2), (true, 3), (true, 4), (true, 5), (true, 6), (true, 7), (true, 8), (true, 9), (true, 10), (true, 12), (true, 14), (true, 15), (false, 11), (false, 13), (true, 16)] [17] mixed (by kernel_rfl) ⟨Nat.le_refl _, (Below.refl _ _).drew⟩ ?_
          intro T M Q Q2 hT hT' hM hQ hQ2
          have m1 : M ⟨g, 3, none⟩ = some (.slice A1 d.f1.length c1) := hM _ _ fun w' hw => (hw.2.cell (p := ⟨g, 3, none⟩) HDW.out.lt).trans e1
          clear hM
          have t1 : 1 + Int.toNat 1 * 2 = 3 := rfl
          have t2 : 3 + 1 = 4 := rfl
          have t4 : 1 + 1 = 2 := rfl
          simp only [qcmp]
          simp (maxSteps := 5000000) only [↓qpre, qpost, qfacts, qnorm, m1, t1, t2, t4, sliced, addr0, Nat.sub_zero, TN]
          refine ⟨by omega, by omega, ?_⟩
          refine eff_append E48 (base := wr.heap.size) rfl rfl (World.ownsRow_nil _ _ _ _) (show Rd wr.drew wr.heap.size 1 A1 (d.s1) c1 (by8 (d.f1.take (d.s1))) from HDK.out.drew.rd) (by8_one _) (by simp only [maxLen]; omega) (by omega) (Nat.le_refl _) ?_
          intro v3 w3 ho3 hg3 hat3
          have hb3 : Below wr.heap.size wr w3 := ((Below.refl wr.heap.size wr).drew).grown hg3 (Nat.le_refl _) (fun k hk => by cases hk)
          refine ⟨hT _ ⟨hb3.size, hb3⟩, ?_⟩
          rw [Nat.zero_add, List.nil_append] at ho3
          obtain ⟨A', c', rfl, hc'⟩ := ownsRow_cap ho3
          have HL4 := Lib.hid (HLL.out.below hb3)
          have HN := Lib.hid (HL4.out.file1 (d' := rdk d 2) (A := A') (n := d.s1) (c := c') (l := d.f1.take (d.s1)) (s := ((d.s1 : Nat) : Int)) (s' := d.s1) hlen (Dat.of_own ho3 hc') rfl (by simp [rdk, PD.put, hkp]) (HWF.out 2))
          have HBW := HB.out.trans (hb3.mono hws)
          have HBN := Lib.hid ((HBW.grown (set_grown w3 x 3 (.slice A' (d.s1) c')) HBW.size (fun g hg => by cases hg; exact HGX.out)).grown (set_grown _ x 4 (.int .i64 ((d.s1 : Nat) : Int))) (by rw [show (w3.setCell ⟨x, 3, none⟩ (.slice A' (d.s1) c')).heap.size = w3.heap.size by simp]; exact HBW.size) (fun g hg => by cases hg; exact HGX.out))
          have HB3 := Lib.hid hb3
          clear ho3 hg3 hb3 hat3 HBW
          simp (maxSteps := 5000000) only [qpost, qnorm]
          refine eff_buildN rfl (run_build95 _ _ _ _ _) ⟨hT _ ⟨HB3.out.size, HB3.out⟩, ?_⟩
          simp (maxSteps := 5000000) only [↓qpre, qpost, qfacts, qnorm, t1, t2, t4]
          refine ⟨by omega, hQ _ _ ?_⟩
          simp only [lates, List.map, qcmp]
          simp (maxSteps := 5000000) only [qpost]
          refine eff_store2 (u0 := .slice A' (d.s1) c') (u1 := .int .i64 ((d.s1 : Nat) : Int)) (b := x) (o := 3) (by kernel_rfl) rfl rfl (by rw [HL4.out.at_ (j := 3) rfl]; rfl) (by rw [show 3 + 1 = 4 from rfl, HL4.out.at_ (j := 4) rfl]; rfl) (HL4.out.fr 3) (HL4.out.fr 4) rfl rfl ⟨trivial, ?_⟩
          simp (maxSteps := 5000000) only [qpost]
          refine hQ2 _ _ ?_
          clear hQ hQ2 hT hT' m1 t1 t2 t4
          go_wp2
          exact ⟨⟨2, by omega, rfl, Lib.hid ⟨_, _, _, _, _, _, HN.out⟩, HBN⟩, by simp [intOf]⟩
    · rw [rdk_two] at HLL
      go_wp2
      go_ret
      exact ⟨x, rfl, ⟨_, _, _, _, _, _, HLL.out⟩, HGX.out, HB.out⟩
end Go.Proofs.Ytabiegbbbljhlaa
