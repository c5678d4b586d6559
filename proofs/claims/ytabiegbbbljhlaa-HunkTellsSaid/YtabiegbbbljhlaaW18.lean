/- Walk: slices of edits compared. -/
import Derived.Test.YtabiegbbbljhlaaW6
namespace Go.Proofs.Ytabiegbbbljhlaa
open Go.RowKit

theorem ev_eq {a b : EV} : a = b ↔ a.kind = b.kind ∧ a.line = b.line := by
  cases a; cases b; simp
instance : DecidableEq EV := fun _ _ => decidable_of_iff _ ev_eq.symm

theorem toList_inj {u v : ByteArray} (h : u.toList = v.toList) : u = v := by
  by_cases e : u = v
  · exact e
  · have := ba_ne e
    rw [h] at this
    simp at this

set_option maxRecDepth 100000 in
set_option maxHeartbeats 4000000 in
theorem edit1_any {u v : EV} {w : World} :
    Calls Try.prog 74 #[.agg #[.int .i64 u.kind, .string u.line], .agg #[.int .i64 v.kind, .string v.line]] w (BoolBelow (decide (u = v)) w) := by
  go_enter Try.func74, Try.ntmps74
  go_wp2
  · rename_i h1 h2
    go_ret
    exact ⟨ret_bool (decide_eq_true (ev_eq.2 ⟨h1, toList_inj h2⟩)).symm, ((Below.refl _ _).alloc (Nat.le_refl _) _).alloc (by simp) _⟩
  · rename_i h1 h2
    go_ret
    exact ⟨ret_bool (decide_eq_false fun e => h2 (by rw [e])).symm, ((Below.refl _ _).alloc (Nat.le_refl _) _).alloc (by simp) _⟩
  · rename_i h1
    go_ret
    exact ⟨ret_bool (decide_eq_false fun e => h1 (by rw [e])).symm, ((Below.refl _ _).alloc (Nat.le_refl _) _).alloc (by simp) _⟩

/-- Alike, up to here. -/
def EqE (xs ys : List EV) (k : Nat) : Prop := xs.take k = ys.take k
theorem EqE.succ {xs ys : List EV} {k : Nat} {u v : EV} (h : EqE xs ys k) (hx : xs[k]? = some u) (hy : ys[k]? = some v) (e : u = v) : EqE xs ys (k + 1) := by
  unfold EqE at *
  rw [List.take_add_one, List.take_add_one, hx, hy, h, e]

set_option maxRecDepth 100000 in
set_option maxHeartbeats 4000000 in
theorem sameE_any {A B : Option Addr} {n ca m cb BB : Nat} {xs ys : List EV} {w : World} (hn : n ≤ 1048576) (hm : m ≤ 1048576) (hBB : BB ≤ w.heap.size)
   (ha : Rd w BB 2 A n ca (xs.flatMap EV.cells)) (hb : Rd w BB 2 B m cb (ys.flatMap EV.cells)) :
    Calls Try.prog 73 #[.slice A n ca, .slice B m cb, .func (.func 74) #[] #[]] w (BoolBelow (decide (xs = ys)) w) := by
  have HX := Lib.hid (rdE_len ha)
  have HY := Lib.hid (rdE_len hb)
  by_cases h : n = m
  · subst h
    go_enter Try.func73, Try.ntmps73
    go_wp2
    go_loopw [7] (fun i wr => ∃ k : Nat, k ≤ n ∧ i = .int .i64 k ∧ Below w.heap.size w wr ∧ Hid (EqE xs ys k)) (fun i _ => n - (intOf i).toNat)
    case atStart => exact ⟨0, Nat.zero_le _, rfl, Below.refl _ _, by unfold EqE; rfl⟩
    case round =>
      obtain ⟨k, hk, rfl, hbw, hj⟩ := hrel
      by_cases hlt : k < n
      · obtain ⟨b0, o0, u, rfl, hb0, hx, p0, p1⟩ := rdE_get ha hlt
        obtain ⟨b1, o1, v, rfl, hb1, hy, r0, r1⟩ := rdE_get hb hlt
        have HX2 := Lib.hid hx; have HY2 := Lib.hid hy; clear hx hy
        have hbs := hbw.size
        have HC := Lib.hid (edit1_any (u := u) (v := v) (w := wr.drew))
        go_wp2
        refine wp_region_q (fun w' => Below w.heap.size w w') (qe [9] 11) mixed (by kernel_rfl) hbw.drew ?_
        intro T M Q hT hT' hM hQ
        have m0 : M ⟨b0, o0 + k * 2, none⟩ = some (.int .i64 u.kind) := hM _ _ fun w' hw => (hw.cell (p := ⟨b0, o0 + k * 2, none⟩) (by show b0 < _; omega)).trans p0
        have m1 : M ⟨b0, o0 + k * 2 + 1, none⟩ = some (.string u.line) := hM _ _ fun w' hw => (hw.cell (p := ⟨b0, o0 + k * 2 + 1, none⟩) (by show b0 < _; omega)).trans p1
        have q0 : M ⟨b1, o1 + k * 2, none⟩ = some (.int .i64 v.kind) := hM _ _ fun w' hw => (hw.cell (p := ⟨b1, o1 + k * 2, none⟩) (by show b1 < _; omega)).trans r0
        have q1 : M ⟨b1, o1 + k * 2 + 1, none⟩ = some (.string v.line) := hM _ _ fun w' hw => (hw.cell (p := ⟨b1, o1 + k * 2 + 1, none⟩) (by show b1 < _; omega)).trans r1
        simp only [qcmp, Nat.reduceBEq]
        simp (maxSteps := 5000000) only [↓qpre, qpost, qfacts, qnorm, m0, m1, q0, q1]
        refine ⟨⟨by omega, by omega⟩, ⟨by omega, by omega⟩, eff_call (by kernel_rfl) HC.out rfl rfl ?_⟩
        rintro e w1 ⟨rfl, hb1⟩
        have hbd : Below w.heap.size w w1 := hbw.drew.trans (hb1.mono hbs)
        refine ⟨_, rfl, hT _ hbd, ?_⟩
        simp (maxSteps := 5000000) only [↓qpre, qpost, qnorm]
        refine hQ _ _ ?_
        clear hQ hT hT' hM m0 m1 q0 q1
        cases hd : decide (u = v)
        · have he := of_decide_eq_false hd
          clear hd
          go_wp2
          go_ret
          refine ⟨ret_bool (decide_eq_false fun e => he ?_).symm, hbd⟩
          have := congrArg (·[k]?) e
          simp only [HX2.out, HY2.out] at this
          exact Option.some.inj this
        · have he := Lib.hid (of_decide_eq_true hd)
          clear hd
          go_wp2
          go_roundw
          case rel => exact ⟨k + 1, by omega, by go_num, hbd, hj.out.succ HX2.out HY2.out he.out⟩
          case measure => simp [intOf]; omega
      · have hkn : k = n := by omega
        subst hkn
        have HE := Lib.hid (show xs = ys from by
          have := hj.out
          unfold EqE at this
          rwa [List.take_of_length_le (by rw [HX.out]; exact Nat.le_refl _), List.take_of_length_le (by rw [HY.out]; exact Nat.le_refl _)] at this)
        go_wp2
        go_ret
        exact ⟨ret_bool (decide_eq_true HE.out).symm, hbw⟩
  · obtain ⟨h1, h2⟩ := int_ne (u := (n : Int)) (v := (m : Int)) (by omega)
    go_enter Try.func73, Try.ntmps73
    go_wp2
    go_ret
    refine ⟨ret_bool (decide_eq_false fun e => ?_).symm, Below.refl _ _⟩
    have := congrArg List.length e
    rw [HX.out, HY.out] at this
    exact h this

set_option maxHeartbeats 1000000 in
theorem plainE_any {A B : Option Addr} {n ca m cb BB : Nat} {xs ys : List EV} {w : World} (hn : n ≤ 1048576) (hm : m ≤ 1048576) (hBB : BB ≤ w.heap.size)
   (ha : Rd w BB 2 A n ca (xs.flatMap EV.cells)) (hb : Rd w BB 2 B m cb (ys.flatMap EV.cells)) :
    Calls Try.prog 60 #[.slice A n ca, .slice B m cb] w (BoolBelow (decide (xs = ys)) w) := by
  go_enter Try.func60, Try.ntmps60
  go_wp2_with (go_at_call 73; refine (sameE_any hn hm hBB ha hb).mono ?_; rintro e w' ⟨rfl, hb'⟩)
  go_ret
  exact ⟨rfl, hb'⟩
end Go.Proofs.Ytabiegbbbljhlaa
