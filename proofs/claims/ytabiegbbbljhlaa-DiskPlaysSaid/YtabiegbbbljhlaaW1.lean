/- Walks: slices.Equal at []string; hunk.Right. -/
import Derived.Test.YtabiegbbbljhlaaHunks
namespace Go.Proofs.Ytabiegbbbljhlaa
open Go.RowKit

def EqTo (xs ys : List ByteArray) (k : Nat) : Prop := ∀ j, j < k → xs[j]? = ys[j]?
def QuietB (b : Bool) (w : World) (e : Ending) (w' : World) : Prop := e = .returned (.bool b) ∧ ∃ k, w' = w.drewN k

set_option maxHeartbeats 1000000 in
theorem equal_any {A B : Option Addr} {n ca m cb BB : Nat} {xs ys : List ByteArray} {w : World} (hn : n ≤ maxLen) (hm : m ≤ maxLen)
   (ha : Rd w BB 1 A n ca (xs.map .string)) (hb : Rd w BB 1 B m cb (ys.map .string)) :
    Calls Try.prog 55 #[.slice A n ca, .slice B m cb] w (QuietB (decide (xs = ys)) w) := by
  have HX := Lib.hid (show xs.length = n by have := ha.len; simpa using this)
  have HY := Lib.hid (show ys.length = m by have := hb.len; simpa using this)
  unfold maxLen at hn hm
  by_cases h : n = m
  · subst h
    go_enter Try.func55, Try.ntmps55
    go_wp2
    go_loopw [13] (fun i wr => ∃ k : Nat, k ≤ n ∧ i = .int .i64 k ∧ (∃ q, wr = w.drewN q) ∧ EqTo xs ys k) (fun i _ => n - (intOf i).toNat)
    case atStart => exact ⟨0, Nat.zero_le _, rfl, ⟨0, rfl⟩, fun j hj => absurd hj (Nat.not_lt_zero _)⟩
    case round =>
      obtain ⟨k, hk, rfl, ⟨q, rfl⟩, hj⟩ := hrel
      by_cases hlt : k < n
      · obtain ⟨b0, o0, u, rfl, _, hx, h1⟩ := ha.str hlt
        obtain ⟨b1, o1, v, rfl, _, hy, h2⟩ := hb.str hlt
        have HX2 := Lib.hid hx; have HY2 := Lib.hid hy; clear hx hy
        by_cases he : u = v
        · subst he
          go_wp2
          go_quiet (fail)
          go_wp2
          go_roundw
          case rel => 
            refine ⟨k + 1, by omega, by go_num, ⟨_, rfl⟩, fun j hj' => ?_⟩
            by_cases e : j = k
            · subst e; rw [HX2.out, HY2.out]
            · exact hj j (by omega)
          case measure => simp [intOf]; omega
        · have he' := ba_ne he
          go_wp2
          go_quiet (fail)
          go_wp2
          go_ret
          refine ⟨ret_bool (decide_eq_false fun e => ?_).symm, _, World.drewN_drewN _ _ _⟩
          subst e
          have := HX2.out; rw [HY2.out] at this; injection this with this; exact he this.symm
      · have hkn : k = n := by omega
        go_wp2
        go_ret
        refine ⟨ret_bool (decide_eq_true ?_).symm, _, rfl⟩
        exact ext_get (by rw [HX.out, HY.out]) (fun j hl => hj j (by rw [HX.out] at hl; omega))
  · obtain ⟨h1, h2⟩ := int_ne (u := (n : Int)) (v := (m : Int)) (by omega)
    go_enter Try.func55, Try.ntmps55
    go_wp2
    go_ret
    refine ⟨ret_bool (decide_eq_false fun e => ?_).symm, 0, rfl⟩
    subst e
    exact h (HX.out.symm.trans HY.out)
set_option maxRecDepth 100000 in
set_option maxHeartbeats 4000000 in
theorem right_any {A : Option Addr} {n c : Nat} {hs : List HV} {w : World} (hn : n ≤ maxLen) (h : RdH w w.heap.size A n c hs) :
    Calls Try.prog 27 #[.slice A n c] w (BoolBelow (right hs) w) := by
  unfold maxLen at hn
  go_enter Try.func27, Try.ntmps27
  go_wp2
  go_loopw [7] (fun i wr => ∃ k : Nat, k ≤ n ∧ i = .int .i64 k ∧ Below w.heap.size w wr ∧ Hid (∀ j, j < k → okAt hs j = true)) (fun i _ => n - (intOf i).toNat)
  case atStart => exact ⟨0, Nat.zero_le _, rfl, Below.refl _ _, fun j hj => absurd hj (Nat.not_lt_zero _)⟩
  case round =>
    obtain ⟨k, hk, rfl, hb, hj⟩ := hrel
    by_cases hlt : k < n
    · obtain ⟨b0, o0, u, rfl, hbb, hx, hu, h0, h1, h2⟩ := h.get hlt
      replace h0 := (hb.cell hbb).trans h0
      replace h1 := (hb.cell hbb).trans h1
      replace h2 := (hb.cell hbb).trans h2
      have HX := Lib.hid hx; clear hx
      obtain ⟨_, _, ho, hnn, ha0, ha1⟩ := h.parts u hu
      go_wp2
      refine wp_region_q (fun w' => Below w.heap.size w w' ∧ w'.heap[wr.heap.size]? = some (.cells #[.int .i64 u.at_, .slice u.oA u.old.length u.oc, .slice u.nA u.new.length u.nc] 29 (0, 0))) (qs 41) mixed (by kernel_rfl) ?_ (fun T M Q hT hT' hM hQ => ?_)
      · exact ⟨((hb.alloc hb.size _).drew), heap_alloc_new _ _⟩
      have m0 : M ⟨wr.heap.size, 0, none⟩ = some (.int .i64 u.at_) := hM _ _ fun w' hw => by rw [cell_of_row w' _ _ _ _ _ hw.2]; rfl
      have m1 : M ⟨wr.heap.size, 1, none⟩ = some (.slice u.oA u.old.length u.oc) := hM _ _ fun w' hw => by rw [cell_of_row w' _ _ _ _ _ hw.2]; rfl
      have m2 : M ⟨wr.heap.size, 2, none⟩ = some (.slice u.nA u.new.length u.nc) := hM _ _ fun w' hw => by rw [cell_of_row w' _ _ _ _ _ hw.2]; rfl
      simp only [qcmp]
      have HM := Lib.hid hM; clear hM
      simp (maxSteps := 5000000) only [↓qpre, qpost, qfacts, qnorm, m0, m1, m2]
      have hbE : Below w.heap.size w ((wr.alloc (Obj.cells #[Value.int IntKind.i64 u.at_, Value.slice u.oA u.old.length u.oc, Value.slice u.nA u.new.length u.nc] 29)).drew) := (hb.alloc hb.size _).drew
      refine gsym_i (fun c1 => hQ _ _ ?_) (fun c1 => gsym_i (fun c2 => hQ _ _ ?_) (fun c2 => ⟨⟨by omega, by omega⟩, gsym_i (fun c3 => hQ _ _ ?_) (fun c3 => gsym_i (fun c4 => ?_) (fun c4 => hQ _ _ ?_))⟩))
      · go_wp2
        go_ret
        exact ⟨ret_bool (right_false (by rw [h.len]; exact hlt) (okAt_bad HX.out (.inl (of_decide_eq_true c1)))).symm, hbE⟩
      · go_wp2
        go_ret
        exact ⟨ret_bool (right_false (by rw [h.len]; exact hlt) (okAt_bad HX.out (.inr (.inl (of_decide_eq_true c2))))).symm, hbE⟩
      · go_wp2
        go_ret
        exact ⟨ret_bool (right_false (by rw [h.len]; exact hlt) (okAt_bad HX.out (.inr (.inr (of_decide_eq_true c3))))).symm, hbE⟩
      · have okh := okHd_yes (of_decide_eq_false c1) (of_decide_eq_false c2) (of_decide_eq_false c3)
        replace c1 := of_decide_eq_false c1
        replace c2 := of_decide_eq_false c2
        have hk0 : 0 < k := by have := of_decide_eq_true c4; omega
        obtain ⟨b, o, p, e, hbb', hx', hp, g0, g1, g2⟩ := h.get (k := k-1) (by omega)
        cases e
        have e1 : ((k : Int) - 1).toNat = k - 1 := by omega
        have m3 : M ⟨b0, o0 + (k - 1) * 3, none⟩ = some (.int .i64 p.at_) := HM.out _ _ fun w' hw => (hw.1.cell hbb').trans g0
        have m4 : M ⟨b0, o0 + (k - 1) * 3 + 1, none⟩ = some (.slice p.oA p.old.length p.oc) := HM.out _ _ fun w' hw => (hw.1.cell hbb').trans g1
        obtain ⟨_, _, po, pn, pa0, pa1⟩ := h.parts p hp
        have pr := ok_at (hj.out (k-1) (by omega)) hx'
        simp (maxSteps := 5000000) only [↓qpre, qpost, qfacts, qnorm, m3, m4, e1]
        refine ⟨⟨by omega, by omega⟩, ⟨by omega, by omega⟩, ⟨by omega, by omega⟩, ⟨by omega, by omega⟩, ⟨by omega, by omega⟩, hQ _ _ ?_⟩
        have OK := Lib.hid (okAt_next HX.out hx' hk0 okh)
        clear okh hx' m0 m1 m2 m3 m4 e1
        go_wp2
        · rename_i hd
          go_ret
          exact ⟨ret_bool (right_false (by rw [h.len]; exact hlt) (by rw [OK.out]; simpa using hd)).symm, hbE⟩
        · rename_i hd
          go_roundw
          case rel => exact ⟨k + 1, by omega, by go_num, hbE, upto_succ hj.out (by rw [OK.out]; simpa using hd)⟩
          case measure => simp [intOf]; omega
      · have okh := okHd_yes (of_decide_eq_false c1) (of_decide_eq_false c2) (of_decide_eq_false c3)
        have e : k = 0 := by have := of_decide_eq_false c4; omega
        have OK := Lib.hid (show okAt hs k = true by subst e; exact okAt_first HX.out okh)
        clear okh m0 m1 m2 c1 c2 c3 e
        go_wp2
        go_roundw
        case rel => exact ⟨k + 1, by omega, by go_num, hbE, upto_succ hj.out OK.out⟩
        case measure => simp [intOf]; omega
    · go_wp2
      go_ret
      exact ⟨ret_bool (right_true (fun j hj' => hj.out j (by rw [h.len] at hj'; omega))).symm, hb⟩
end Go.Proofs.Ytabiegbbbljhlaa
