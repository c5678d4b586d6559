/- Walks: the plain comparisons. -/
import Derived.Test.YtabiegbbbljhlaaW1
namespace Go.Proofs.Ytabiegbbbljhlaa
open Go.RowKit

set_option maxHeartbeats 1000000 in
theorem plain1_any (x y : ByteArray) (w : World) : Calls Try.prog 58 #[.string x, .string y] w fun e w' => e = .returned (.bool (decide (x = y))) ∧ w' = w := by
  have hs := str_eq x y
  go_enter Try.func58, Try.ntmps58
  go_wp2
  go_ret
  exact ⟨by simp, rfl⟩

set_option maxRecDepth 100000 in
set_option maxHeartbeats 4000000 in
theorem same_any {A B : Option Addr} {n ca m cb BB : Nat} {xs ys : List ByteArray} {w : World} (hn : n ≤ maxLen) (hm : m ≤ maxLen) (hBB : BB ≤ w.heap.size)
   (ha : Rd w BB 1 A n ca (xs.map .string)) (hb : Rd w BB 1 B m cb (ys.map .string)) :
    Calls Try.prog 57 #[.slice A n ca, .slice B m cb, .func (.func 58) #[] #[]] w (BoolBelow (decide (xs = ys)) w) := by
  have HX := Lib.hid (show xs.length = n by have := ha.len; simpa using this)
  have HY := Lib.hid (show ys.length = m by have := hb.len; simpa using this)
  unfold maxLen at hn hm
  by_cases h : n = m
  · subst h
    go_enter Try.func57, Try.ntmps57
    go_wp2
    go_loopw [7] (fun i wr => ∃ k : Nat, k ≤ n ∧ i = .int .i64 k ∧ Below w.heap.size w wr ∧ EqTo xs ys k) (fun i _ => n - (intOf i).toNat)
    case atStart => exact ⟨0, Nat.zero_le _, rfl, Below.refl _ _, fun j hj => absurd hj (Nat.not_lt_zero _)⟩
    case round =>
      obtain ⟨k, hk, rfl, hbw, hj⟩ := hrel
      by_cases hlt : k < n
      · obtain ⟨b0, o0, u, rfl, hb0, hx, h1⟩ := ha.str hlt
        obtain ⟨b1, o1, v, rfl, hb1, hy, h2⟩ := hb.str hlt
        have HX2 := Lib.hid hx; have HY2 := Lib.hid hy; clear hx hy
        go_wp2
        refine wp_region_q (fun w' => Below w.heap.size w w') (qe [9] 11) mixed (by kernel_rfl) hbw.drew (fun T M Q hT hT' hM hQ => ?_)
        have m0 : M ⟨b0, o0 + k, none⟩ = some (.string u) := hM _ _ fun w' hw => (hw.cell (p := ⟨b0, o0 + k, none⟩) (by show b0 < _; omega)).trans h1
        have m1 : M ⟨b1, o1 + k, none⟩ = some (.string v) := hM _ _ fun w' hw => (hw.cell (p := ⟨b1, o1 + k, none⟩) (by show b1 < _; omega)).trans h2
        simp only [qcmp, Nat.reduceBEq]
        simp (maxSteps := 5000000) only [↓qpre, qpost, qfacts, qnorm, m0, m1]
        refine ⟨⟨by omega, by omega⟩, ⟨by omega, by omega⟩, eff_call (by kernel_rfl) (plain1_any u v _) rfl rfl ?_⟩
        rintro e w' ⟨rfl, rfl⟩
        refine ⟨_, rfl, hT _ hbw.drew, ?_⟩
        simp (maxSteps := 5000000) only [↓qpre, qpost, qnorm]
        refine hQ _ _ ?_
        have hbd := hbw.drew
        clear hQ hT hT' hM m0 m1
        cases hd : decide (u = v)
        · have he := of_decide_eq_false hd
          clear hd
          go_wp2
          go_ret
          refine ⟨ret_bool (decide_eq_false fun e => ?_).symm, hbd⟩
          subst e
          have := HX2.out; rw [HY2.out] at this; injection this with this; exact he this.symm
        · have he := Lib.hid (of_decide_eq_true hd)
          clear hd
          go_wp2
          go_roundw
          case rel =>
            refine ⟨k + 1, by omega, by go_num, hbd, fun j hj' => ?_⟩
            by_cases e : j = k
            · subst e; rw [HX2.out, HY2.out, he.out]
            · exact hj j (by omega)
          case measure => simp [intOf]; omega
      · have hkn : k = n := by omega
        go_wp2
        go_ret
        refine ⟨ret_bool (decide_eq_true ?_).symm, hbw⟩
        exact ext_get (by rw [HX.out, HY.out]) (fun j hl => hj j (by rw [HX.out] at hl; omega))
  · obtain ⟨h1, h2⟩ := int_ne (u := (n : Int)) (v := (m : Int)) (by omega)
    go_enter Try.func57, Try.ntmps57
    go_wp2
    go_ret
    refine ⟨ret_bool (decide_eq_false fun e => ?_).symm, Below.refl _ _⟩
    subst e
    exact h (HX.out.symm.trans HY.out)

set_option maxHeartbeats 1000000 in
theorem plain_any {A B : Option Addr} {n ca m cb BB : Nat} {xs ys : List ByteArray} {w : World} (hn : n ≤ maxLen) (hm : m ≤ maxLen) (hBB : BB ≤ w.heap.size)
   (ha : Rd w BB 1 A n ca (xs.map .string)) (hb : Rd w BB 1 B m cb (ys.map .string)) :
    Calls Try.prog 18 #[.slice A n ca, .slice B m cb] w (BoolBelow (decide (xs = ys)) w) := by
  go_enter Try.func18, Try.ntmps18
  go_wp2_with (go_at_call 57; refine (same_any hn hm hBB ha hb).mono ?_; rintro e w' ⟨rfl, hb'⟩)
  go_ret
  exact ⟨rfl, hb'⟩
end Go.Proofs.Ytabiegbbbljhlaa
