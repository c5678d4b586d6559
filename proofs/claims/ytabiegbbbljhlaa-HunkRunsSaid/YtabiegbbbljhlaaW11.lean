/- Walk: Distance, and HunkRuns. -/
import Derived.Test.YtabiegbbbljhlaaW10
import Derived.Test.YtabiegbbbljhlaaRuns
namespace Go.Proofs.Ytabiegbbbljhlaa
open Go.RowKit

def NatBelow (k : Nat) (w : World) (e : Ending) (w' : World) : Prop := e = .returned (.int .i64 k) ∧ Below w.heap.size w w'

set_option maxRecDepth 100000 in
set_option maxHeartbeats 8000000 in
theorem distance_any {A B : Option Addr} {n ca m cb : Nat} {a b : List ByteArray} {w : World} (hn : n ≤ 1048576) (hm : m ≤ 1048576)
    (ha : Rd w w.heap.size 1 A n ca (a.map .string)) (hb : Rd w w.heap.size 1 B m cb (b.map .string)) :
    Calls Try.prog 19 #[.slice A n ca, .slice B m cb] w (NatBelow (cnt (script a b)) w) := by
  have HA := Lib.hid (show a.length = n by have := ha.len; simpa using this)
  have HB := Lib.hid (show b.length = m by have := hb.len; simpa using this)
  go_enter Try.func19, Try.ntmps19
  go_wp2_with fail
  refine (script_any hn hm ha hb).mono ?_
  rintro e w1 ⟨A1, n1, k1, rfl, hr1, hb1⟩
  have hn1 : n1 ≤ 2097152 := by
    have e1 := rdE_len hr1
    have e2 := script_len a b
    have e3 := HA.out
    have e4 := HB.out
    omega
  generalize script a b = es at *
  have HE := Lib.hid (rdE_len hr1)
  have HR := Lib.hid hr1
  have HW := Lib.hid hb1
  clear hr1 hb1
  go_wp2
  go_loopw [5, 7] (fun c i wr => wr = w1 ∧ ∃ k : Nat, k ≤ n1 ∧ c = .int .i64 (cnt (es.take k) : Nat) ∧ i = .int .i64 k) (fun _ i _ => n1 - (intOf i).toNat)
  case atStart => exact ⟨rfl, 0, Nat.zero_le _, rfl, rfl⟩
  case round =>
    obtain ⟨rfl, k, hk, rfl, rfl⟩ := hrel
    have hcn : cnt (es.take k) ≤ k := by have := cnt_le (es.take k); rw [List.length_take] at this; omega
    by_cases hlt : k < n1
    · obtain ⟨bb, oo, u, rfl, hbb, hu, h0, h1⟩ := rdE_get HR.out hlt
      have HU := Lib.hid (cnt_succ hu)
      clear hu h1
      generalize hc : cnt (es.take k) = c0 at *
      clear hc
      by_cases hk1 : u.kind = 1
      · rw [hk1] at h0
        go_wp2
        go_roundw
        case rel => exact ⟨trivial, k + 1, by omega, by rw [HU.out, if_pos hk1]; rfl, by go_num⟩
        case measure => simp [intOf]; omega
      · obtain ⟨i1, i2⟩ := int_ne hk1
        have HK := Lib.hid hk1
        clear hk1
        go_wp2
        go_roundw
        case rel => exact ⟨trivial, k + 1, by omega, by rw [HU.out, if_neg HK.out]; rfl, by go_num⟩
        case measure => simp [intOf]; omega
    · have hkn : k = n1 := by omega
      subst hkn
      rw [List.take_of_length_le (by rw [HE.out]; exact Nat.le_refl _)]
      go_wp2
      go_ret
      exact ⟨rfl, HW.out⟩

set_option maxRecDepth 100000 in
set_option maxHeartbeats 8000000 in
theorem hunkRuns_any {A B : Option Addr} {n ca m cb : Nat} {a b : List ByteArray} (w : World)
    (ha : Rd w w.heap.size 1 A n ca (a.map .string)) (hb : Rd w w.heap.size 1 B m cb (b.map .string)) :
    Calls Try.prog 5 #[.slice A n ca, .slice B m cb] w (BoolBelow true w) := by
  by_cases c1 : 60 < n
  · go_enter Try.func5, Try.ntmps5
    go_wp2_with (go_at_call 14; refine (awake7_any _).mono ?_; rintro e w1 ⟨rfl, hb1⟩)
    go_ret
    exact ⟨rfl, hb1⟩
  have d1 : decide (60 < n) = false := by simpa using c1
  by_cases c2 : 60 < m
  · go_enter Try.func5, Try.ntmps5
    go_wp2_with (go_at_call 14; refine (awake7_any _).mono ?_; rintro e w1 ⟨rfl, hb1⟩)
    go_ret
    exact ⟨rfl, hb1⟩
  have d2 : decide (60 < m) = false := by simpa using c2
  have HA := Lib.hid (show a.length = n by have := ha.len; simpa using this)
  have HB := Lib.hid (show b.length = m by have := hb.len; simpa using this)
  go_enter Try.func5, Try.ntmps5
  go_wp2_with fail
  refine (script_any (by omega) (by omega) ha hb).mono ?_
  rintro e w1 ⟨A1, n1, k1, rfl, hr1, hb1⟩
  have hn1 : n1 ≤ 120 := by
    have e1 := rdE_len hr1
    have e2 := script_len a b
    have e3 := HA.out
    have e4 := HB.out
    omega
  go_wp2_with fail
  refine (of_any (by omega) hr1).mono ?_
  rintro e w2 ⟨A2, n2, k2, hs, rfl, hr2, hp2, hb2⟩
  have hs1 := hb1.size
  have hs2 := hb2.size
  have HB2 := Lib.hid (hb1.trans (hb2.mono hs1))
  have hn2 : n2 ≤ 120 := by
    have e1 := (hst_few (script a b)).2
    rw [← hp2, List.length_map, hr2.len, rdE_len hr1] at e1
    omega
  have HS := Lib.hid (show Says a b (hs.map HV.pure) from by rw [hp2]; exact hunks_say (script_says a b).2.2 (script_says a b).1 (script_says a b).2.1)
  have HSUM := Lib.hid (show hsum (hs.map HV.pure) = cnt (script a b) from by rw [hp2]; exact hunks_sum (script_says a b).2.2)
  have HRUN := Lib.hid (show runs (script a b) n1 = n2 from by rw [← rdE_len hr1, runs_all, ← hp2, List.length_map, hr2.len])
  have HE := Lib.hid (rdE_len hr1)
  have HCL := Lib.hid (show cnt (script a b) ≤ 120 from by have := cnt_le (script a b); rw [rdE_len hr1] at this; omega)
  have HR1 := Lib.hid (hr1.to hb2 hs2)
  have HR2 := Lib.hid hr2
  generalize hes : script a b = es at *
  have HES := Lib.hid hes
  clear hes
  clear hb1 hb2 hr1 hp2 hr2
  go_wp2
  go_loopw [7, 9] (fun c i wr => w2 = wr ∧ ∃ k : Nat, k ≤ n1 ∧ c = .int .i64 (runs es k : Nat) ∧ i = .int .i64 k) (fun _ i _ => n1 - (intOf i).toNat)
  case atStart => exact ⟨rfl, 0, Nat.zero_le _, by rw [runs_zero]; rfl, rfl⟩
  case round =>
    obtain ⟨rfl, k, hk, rfl, rfl⟩ := hrel
    have hrn : runs es k ≤ k := runs_le es k (by rw [HE.out]; omega)
    by_cases hlt : k < n1
    · obtain ⟨bb, oo, u, rfl, hbb, hu, h0, h1⟩ := rdE_get HR1.out hlt
      clear h1
      by_cases hk1 : u.kind = 1
      · rw [hk1] at h0
        have HU := Lib.hid (runs_keep hu hk1)
        clear hu hk1
        generalize hc : runs es k = c0 at *
        clear hc
        go_wp2
        go_roundw
        case rel => exact ⟨trivial, k + 1, by omega, by rw [HU.out], by go_num⟩
        case measure => simp [intOf]; omega
      · obtain ⟨i1, i2⟩ := int_ne hk1
        rcases k with - | k
        · have HU := Lib.hid (runs_first hu hk1)
          rw [Nat.zero_mul, Nat.add_zero] at h0
          clear hu hk1
          generalize hc : runs es 0 = c0 at *
          clear hc
          go_wp2
          go_roundw
          case rel => exact ⟨trivial, 0 + 1, by omega, by rw [HU.out]; go_num, by go_num⟩
          case measure => simp [intOf]; omega
        · obtain ⟨bb2, oo2, u2, hA, hbb2, hu2, h2, h3⟩ := rdE_get HR1.out (k := k) (by omega)
          cases hA
          clear h3
          have HU := Lib.hid (runs_next hu hu2 hk1)
          clear hu hk1 hu2
          generalize hc : runs es (k + 1) = c0 at *
          clear hc
          by_cases hk2 : u2.kind = 1
          · rw [hk2] at h2
            go_wp2
            go_roundw
            case rel => exact ⟨trivial, k + 1 + 1, by omega, by rw [HU.out, if_pos hk2]; go_num, by go_num⟩
            case measure => simp [intOf]; omega
          · obtain ⟨i3, i4⟩ := int_ne hk2
            have HK := Lib.hid hk2
            clear hk2
            go_wp2
            go_roundw
            case rel => exact ⟨trivial, k + 1 + 1, by omega, by rw [HU.out, if_neg HK.out]; rfl, by go_num⟩
            case measure => simp [intOf]; omega
    · have hkn : k = n1 := by omega
      subst hkn
      rw [HRUN.out]
      go_wp2
      go_loopw [8, 10] (fun c i wr => Hid (Below w2.heap.size w2 wr) ∧ ∃ k : Nat, k ≤ n2 ∧ c = .int .i64 (hsum ((hs.take k).map HV.pure) : Nat) ∧ i = .int .i64 k) (fun _ i _ => n2 - (intOf i).toNat)
      case atStart => exact ⟨Below.refl _ _, 0, Nat.zero_le _, rfl, rfl⟩
      case round =>
        obtain ⟨HW, j, hj, rfl, rfl⟩ := hrel
        have hsm : hsum ((hs.take j).map HV.pure) ≤ 120 := by
          have e1 := hsum_mono hs j
          have e2 := HSUM.out
          have e3 := HCL.out
          omega
        by_cases hlt : j < n2
        · obtain ⟨b0, o0, u, rfl, hbb, hx, hu, h0, h1, h2⟩ := HR2.out.get hlt
          have HU := Lib.hid (hsum_succ hx)
          have hsm2 : hsum ((hs.take (j+1)).map HV.pure) ≤ 120 := by
            have e1 := hsum_mono hs (j+1)
            have e2 := HSUM.out
            have e3 := HCL.out
            omega
          rw [HU.out] at hsm2
          have HX := Lib.hid hx
          have HF := Lib.hid (HS.out.fit u.pure (List.mem_map.2 ⟨u, hu, rfl⟩))
          have ha1 : u.at_.toNat + u.old.length ≤ 60 := by have e1 := HF.out.le; have e2 := HA.out; simp only [HV.pure] at e1; omega
          have ha0 : 0 ≤ u.at_ := HF.out.pos
          clear hx
          generalize hcc : hsum ((hs.take j).map HV.pure) = c0 at *
          clear hcc
          go_wp2
          refine wp_region_q (fun w' => Below w2.heap.size w2 w') (qs 16) mixed (by kernel_rfl) HW.out.drew ?_
          intro T M Q hT hT' hM hQ
          have m1 : M ⟨b0, o0 + j * 3 + 1, none⟩ = some (.slice u.oA u.old.length u.oc) := hM _ _ fun w' hw => (hw.cell (p := ⟨b0, o0 + j * 3 + 1, none⟩) hbb).trans h1
          have m2 : M ⟨b0, o0 + j * 3 + 2, none⟩ = some (.slice u.nA u.new.length u.nc) := hM _ _ fun w' hw => (hw.cell (p := ⟨b0, o0 + j * 3 + 2, none⟩) hbb).trans h2
          clear hM
          simp only [qcmp]
          simp (maxSteps := 5000000) only [↓qpre, qpost, qfacts, qnorm, m1, m2]
          refine ⟨⟨by omega, by omega⟩, ⟨by omega, by omega⟩, ⟨by omega, by omega⟩, ⟨by omega, by omega⟩, hQ _ _ ?_⟩
          clear hQ hT hT' m1 m2
          have RELX : ∀ k : Nat, k = j + 1 → Value.int .i64 ((c0 : Int) + u.old.length + u.new.length) = .int .i64 (hsum ((hs.take k).map HV.pure) : Nat) := by
            rintro k rfl
            rw [HU.out]; go_num
          rcases j with - | j
          · go_wp2
            refine wp_region_q (fun w' => Below w2.heap.size w2 w') (qs 24) mixed (by kernel_rfl) HW.out.drew.drew ?_
            intro T M Q hT hT' hM hQ
            clear hM
            have d1 : decide (0 < ((0 : Nat) : Int)) = false := rfl
            simp only [qcmp]
            simp (maxSteps := 5000000) only [↓qpre, qpost, qfacts, qnorm, d1]
            refine hQ _ _ ?_
            clear hQ hT hT'
            go_wp2
            go_roundw
            case rel => exact ⟨HW.out.drew.drew, 0 + 1, by omega, RELX _ rfl, by go_num⟩
            case measure => simp [intOf]; omega
          · obtain ⟨b1, o1, p, hA, hbb1, hx1, hp, g0, g1, g2⟩ := HR2.out.get (k := j) (by omega)
            cases hA
            have HP := HS.out.fit p.pure (List.mem_map.2 ⟨p, hp, rfl⟩)
            have hsep : p.at_.toNat + p.old.length < u.at_.toNat := by
              have e1 := List.getElem?_eq_some_iff.1 hx1
              have e2 := List.getElem?_eq_some_iff.1 HX.out
              obtain ⟨l1, e1⟩ := e1
              obtain ⟨l2, e2⟩ := e2
              have := (List.pairwise_iff_getElem.1 HS.out.sep) j (j + 1) (by rw [List.length_map]; omega) (by rw [List.length_map]; omega) (by omega)
              simp only [List.getElem_map, e1, e2] at this
              exact this
            have hp0 : 0 ≤ p.at_ := HP.pos
            clear HP hx1
            go_wp2
            refine wp_region_q (fun w' => Below w2.heap.size w2 w') (qs 24) mixed (by kernel_rfl) HW.out.drew.drew ?_
            intro T M Q hT hT' hM hQ
            have m0 : M ⟨b0, o0 + (j + 1) * 3, none⟩ = some (.int .i64 u.at_) := hM _ _ fun w' hw => (hw.cell (p := ⟨b0, o0 + (j + 1) * 3, none⟩) hbb).trans h0
            have m1 : M ⟨b0, o0 + j * 3, none⟩ = some (.int .i64 p.at_) := hM _ _ fun w' hw => (hw.cell (p := ⟨b0, o0 + j * 3, none⟩) hbb).trans g0
            have m2 : M ⟨b0, o0 + j * 3 + 1, none⟩ = some (.slice p.oA p.old.length p.oc) := hM _ _ fun w' hw => (hw.cell (p := ⟨b0, o0 + j * 3 + 1, none⟩) hbb).trans g1
            clear hM
            have e1 : (((j + 1 : Nat) : Int) - 1).toNat = j := by omega
            have d1 : decide (0 < ((j + 1 : Nat) : Int)) = true := decide_eq_true (by omega)
            have d2 : decide (u.at_ ≤ p.at_ + p.old.length) = false := decide_eq_false (by omega)
            simp only [qcmp]
            simp (maxSteps := 5000000) only [↓qpre, qpost, qfacts, qnorm, m0, m1, m2, e1, d1, d2]
            refine ⟨⟨by omega, by omega⟩, ⟨by omega, by omega⟩, ⟨by omega, by omega⟩, ⟨by omega, by omega⟩, ⟨by omega, by omega⟩, ⟨by omega, by omega⟩, hQ _ _ ?_⟩
            clear hQ hT hT' m0 m1 m2 e1 d1 d2
            go_wp2
            go_roundw
            case rel => exact ⟨HW.out.drew.drew, j + 1 + 1, by omega, RELX _ rfl, by go_num⟩
            case measure => simp [intOf]; omega
        · have hjn : j = n2 := by omega
          subst hjn
          have HX := Lib.hid (show hsum ((hs.take j).map HV.pure) = cnt es from by rw [List.take_of_length_le (by rw [HR2.out.len]; exact Nat.le_refl _)]; exact HSUM.out)
          rw [HX.out]
          have HCL2 := HCL.out
          generalize hcc : cnt es = c0 at *
          have HCC := Lib.hid hcc
          clear hcc
          have hsw := HW.out.size
          go_wp2_with fail
          refine (awake7_any _).mono ?_
          rintro e w4 ⟨rfl, hb4⟩
          have HW4 := Lib.hid (HW.out.trans (hb4.mono hsw))
          have hsw4 := HW4.out.size
          have HWW := Lib.hid (HB2.out.trans (HW4.out.mono (by omega)))
          have hww := HWW.out.size
          go_wp2_with fail
          refine (distance_any (by omega) (by omega) (ha.to HWW.out hww) (hb.to HWW.out hww)).mono ?_
          rintro e w5 ⟨rfl, hb5⟩
          rw [HES.out, HCC.out]
          go_wp2
          go_ret
          exact ⟨rfl, HWW.out.trans (hb5.mono hww)⟩
end Go.Proofs.Ytabiegbbbljhlaa
