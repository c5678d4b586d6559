/- Walk: HunkBack. -/
import Derived.Test.YtabiegbbbljhlaaW10
import Derived.Test.YtabiegbbbljhlaaW12
import Derived.Test.YtabiegbbbljhlaaW13
namespace Go.Proofs.Ytabiegbbbljhlaa
open Go.RowKit

theorem newLen_few {hs : List HV} {n : Nat} (hn : hs.length = n) (h1 : n ≤ 160) (h : ∀ u ∈ hs, u.old.length ≤ 160 ∧ u.new.length ≤ 160) : newLen hs ≤ 1048576 := by
  have e1 := newLen_le (k := 160) fun u hu => (h u hu).2
  have e3 : hs.length * 160 ≤ 160 * 160 := Nat.mul_le_mul_right _ (by omega)
  omega

set_option maxRecDepth 100000 in
set_option maxHeartbeats 8000000 in
theorem hunkBack_any {A B : Option Addr} {n ca m cb : Nat} {a b : List ByteArray} (w : World)
    (ha : Rd w w.heap.size 1 A n ca (a.map .string)) (hb : Rd w w.heap.size 1 B m cb (b.map .string)) :
    Calls Try.prog 7 #[.slice A n ca, .slice B m cb] w (BoolBelow true w) := by
  by_cases c1 : 80 < n
  · go_enter Try.func7, Try.ntmps7
    go_wp2_with (go_at_call 14; refine (awake7_any _).mono ?_; rintro e w1 ⟨rfl, hb1⟩)
    go_ret
    exact ⟨rfl, hb1⟩
  have d1 : decide (80 < n) = false := by simpa using c1
  by_cases c2 : 80 < m
  · go_enter Try.func7, Try.ntmps7
    go_wp2_with (go_at_call 14; refine (awake7_any _).mono ?_; rintro e w1 ⟨rfl, hb1⟩)
    go_ret
    exact ⟨rfl, hb1⟩
  have d2 : decide (80 < m) = false := by simpa using c2
  have HA := Lib.hid (show a.length = n by have := ha.len; simpa using this)
  have HB := Lib.hid (show b.length = m by have := hb.len; simpa using this)
  go_enter Try.func7, Try.ntmps7
  go_wp2_with fail
  refine (script_any (by omega) (by omega) ha hb).mono ?_
  rintro e w1 ⟨A1, n1, k1, rfl, hr1, hb1⟩
  have hn1 : n1 ≤ 160 := by
    have e1 := rdE_len hr1
    have e2 := script_len a b
    have e3 := HA.out
    have e4 := HB.out
    omega
  go_wp2_with fail
  refine (of_any (by omega) hr1).mono ?_
  rintro e w2 ⟨A2, n2, k2, hs, rfl, hr2, hp2, hb2⟩
  have hs1 := hb1.size
  have hs2 := hb2.size
  have HB2 := Lib.hid (hb1.trans (hb2.mono hs1))
  have hn2 : n2 ≤ 160 := by
    have e1 := (hst_few (script a b)).2
    rw [← hp2, List.length_map, hr2.len, rdE_len hr1] at e1
    omega
  have HN := Lib.hid (show ∀ u ∈ hs, u.old.length ≤ 160 ∧ u.new.length ≤ 160 from fun u hu => by
    obtain ⟨e1, e2, _⟩ := ((hst_few (script a b)).1 u.pure (by rw [← hp2]; exact List.mem_map.2 ⟨u, hu, rfl⟩))
    rw [rdE_len hr1] at e1 e2
    have e3 : u.new.length ≤ n1 := e2
    have e4 : u.old.length ≤ n1 := e1
    omega)
  obtain ⟨s1, s2, s3⟩ := script_says a b
  have HS := Lib.hid (show Says a b (hs.map HV.pure) from by rw [hp2]; exact hunks_say s3 s1 s2)
  have HSB := Lib.hid (show Says b a (invL 0 (hs.map HV.pure)) from by rw [hp2]; exact inv_says s3 s1 s2)
  have HL := Lib.hid (show a.length ≤ 2147483647 by rw [HA.out]; omega)
  have HLB := Lib.hid (show b.length ≤ 2147483647 by rw [HB.out]; omega)
  clear hb1 hb2 hr1 hp2 s1 s2 s3
  have HNL := Lib.hid (newLen_few hr2.len hn2 HN.out)
  -- Apply (a, h)
  go_wp2_with fail
  refine (apply_wide (by omega) (ha.to HB2.out (by omega)) hr2 (by omega) HNL.out).mono ?_
  rintro e w3 ⟨A3, n3, k3, rfl, hr3, hb3⟩
  rw [(HS.out.apply HL.out).1]
  rw [(HS.out.apply HL.out).2] at hr3
  have hs3 := hb3.size
  have hn3 : n3 = m := by have e1 := hr3.len; have e2 := HB.out; simp only [List.length_map] at e1; omega
  subst hn3
  have HB3 := Lib.hid (HB2.out.trans (hb3.mono (by omega)))
  have HR2 := Lib.hid (hr2.to hb3 (Nat.le_refl _) hs3)
  have HR3 := Lib.hid hr3
  clear hr3 hr2 HB2 hb3
  -- Invert (h)
  go_wp2_with fail
  refine (invert_any (by omega) HR2.out (fun u hu => by have := HN.out u hu; omega)).mono ?_
  rintro e w4 ⟨A4, n4, k4, is, rfl, hr4, hp4, hb4⟩
  have hs4 := hb4.size
  have hp4' : is.map HV.pure = invL 0 (hs.map HV.pure) := by rw [hp4]; unfold inv; rw [if_pos (HS.out.right HL.out)]
  have hn4 : n4 = n2 := by
    have e1 := congrArg List.length hp4'
    rw [List.length_map, invL_len, List.length_map, HR2.out.len, hr4.len] at e1
    exact e1
  subst hn4
  have HNI := Lib.hid (show ∀ u ∈ is, u.old.length ≤ 160 ∧ u.new.length ≤ 160 from fun u hu => by
    obtain ⟨i, v, hv, e⟩ := invL_mem (hp4' ▸ List.mem_map.2 ⟨u, hu, rfl⟩)
    rw [List.getElem?_map] at hv
    obtain ⟨x, hx, rfl⟩ := Option.map_eq_some_iff.1 hv
    obtain ⟨f1, f2⟩ := HN.out x (List.mem_of_getElem? hx)
    have e2 := congrArg PH.old e
    have e3 := congrArg PH.new e
    simp only [HV.pure] at e2 e3
    rw [e2, e3]
    exact ⟨f2, f1⟩)
  rw [← hp4'] at HSB
  have HB4 := Lib.hid (HB3.out.trans (hb4.mono (by omega)))
  have HR2b := Lib.hid (HR2.out.to hb4 (Nat.le_refl _) hs4)
  have HR3b := Lib.hid (HR3.out.to hb4 hs4)
  have HR4 := Lib.hid hr4
  have HP4 := Lib.hid hp4'
  have HNL4 := Lib.hid (newLen_few hr4.len hn2 HNI.out)
  clear hr4 hp4 hp4' hb4 HB3 HR2 HR3
  -- Apply (b, i)
  go_wp2_with fail
  refine (apply_wide (by omega) (hb.to HB4.out (by omega)) HR4.out (by omega) HNL4.out).mono ?_
  rintro e w5 ⟨A5, n5, k5, rfl, hr5, hb5⟩
  rw [(HSB.out.apply HLB.out).1]
  rw [(HSB.out.apply HLB.out).2] at hr5
  have hs5 := hb5.size
  have hn5 : n5 = n := by have e1 := hr5.len; have e2 := HA.out; simp only [List.length_map] at e1; omega
  subst hn5
  have HB5 := Lib.hid (HB4.out.trans (hb5.mono (by omega)))
  have HR2c := Lib.hid (HR2b.out.to hb5 (Nat.le_refl _) hs5)
  have HR3c := Lib.hid (HR3b.out.to hb5 hs5)
  have HR4c := Lib.hid (HR4.out.to hb5 (Nat.le_refl _) hs5)
  have HR5 := Lib.hid hr5
  clear hr5 hb5 HB4 HR2b HR3b HR4
  have HO := Lib.hid (HS.out.right HL.out)
  have HOB := Lib.hid (HSB.out.right HLB.out)
  have hww : w.heap.size ≤ w5.heap.size := by omega
  -- awake
  go_wp2_with fail
  refine (awake7_any _).mono ?_
  rintro e w6 ⟨rfl, hb6⟩
  have H6 := Lib.hid hb6
  have hs6 := hb6.size
  clear hb6
  -- Right (h)
  go_wp2_with fail
  refine (right_any (by simp only [maxLen]; omega) (HR2c.out.to H6.out (Nat.le_refl _) hs6)).mono ?_
  rintro e w7 ⟨rfl, hb7⟩
  rw [HO.out]
  have H7 := Lib.hid (H6.out.trans (hb7.mono hs6))
  have hs7 := H7.out.size
  clear hb7 H6
  -- Plain (x, b)
  go_wp2_with fail
  refine (plain_any (by simp only [maxLen]; omega) (by simp only [maxLen]; omega) (Nat.le_refl _) (HR3c.out.to H7.out hs7) (hb.to (HB5.out.trans (H7.out.mono hww)) (by omega))).mono ?_
  rintro e w8 ⟨rfl, hb8⟩
  rw [decide_eq_true rfl]
  have H8 := Lib.hid (H7.out.trans (hb8.mono hs7))
  have hs8 := H8.out.size
  clear hb8 H7
  -- Right (i)
  go_wp2_with fail
  refine (right_any (by simp only [maxLen]; omega) (HR4c.out.to H8.out (Nat.le_refl _) hs8)).mono ?_
  rintro e w9 ⟨rfl, hb9⟩
  rw [HOB.out]
  have H9 := Lib.hid (H8.out.trans (hb9.mono hs8))
  have hs9 := H9.out.size
  clear hb9 H8
  -- Plain (y, a)
  go_wp2_with fail
  refine (plain_any (by simp only [maxLen]; omega) (by simp only [maxLen]; omega) (Nat.le_refl _) (HR5.out.to H9.out hs9) (ha.to (HB5.out.trans (H9.out.mono hww)) (by omega))).mono ?_
  rintro e w10 ⟨rfl, hb10⟩
  rw [decide_eq_true rfl]
  have H10 := Lib.hid (H9.out.trans (hb10.mono hs9))
  have hs10 := H10.out.size
  clear hb10 H9
  -- Invert (i)
  go_wp2_with fail
  refine (invert_any (by omega) (HR4c.out.to H10.out (Nat.le_refl _) hs10) (fun u hu => by have := HNI.out u hu; omega)).mono ?_
  rintro e w11 ⟨A11, n11, k11, js, rfl, hr11, hp11, hb11⟩
  have H11 := Lib.hid (H10.out.trans (hb11.mono hs10))
  have hs11 := H11.out.size
  have HJ := Lib.hid (show js.map HV.pure = hs.map HV.pure from by
    rw [hp11]; unfold inv; rw [if_pos HOB.out, HP4.out]
    have := invL_twice (hs.map HV.pure) 0
    simpa using this)
  have HR11 := Lib.hid hr11
  have hn11 : n11 ≤ 1048576 := by
    have e1 := congrArg List.length HJ.out
    rw [List.length_map, List.length_map, HR2c.out.len, hr11.len] at e1
    omega
  clear hb11 hr11 hp11 H10
  -- Same
  go_wp2_with fail
  refine (sameH_any hn11 (by omega) (Nat.le_refl _) HR11.out (HR2c.out.to H11.out (Nat.le_refl _) hs11)).mono ?_
  rintro e w12 ⟨rfl, hb12⟩
  rw [HJ.out, decide_eq_true rfl]
  have H12 := Lib.hid (H11.out.trans (hb12.mono hs11))
  go_wp2
  go_ret
  exact ⟨rfl, HB5.out.trans (H12.out.mono hww)⟩
end Go.Proofs.Ytabiegbbbljhlaa
