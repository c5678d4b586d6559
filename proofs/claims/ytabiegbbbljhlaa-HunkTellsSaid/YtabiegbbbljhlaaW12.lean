/- Walk: slices of hunks compared. -/
import Derived.Test.YtabiegbbbljhlaaW6
namespace Go.Proofs.Ytabiegbbbljhlaa
open Go.RowKit

theorem ph_eq {a b : PH} : a = b ↔ a.at_ = b.at_ ∧ a.old = b.old ∧ a.new = b.new := by
  cases a; cases b; simp
instance : DecidableEq PH := fun _ _ => decidable_of_iff _ ph_eq.symm
theorem ph_dec (u v : HV) : decide (u.pure = v.pure) = (decide (u.at_ = v.at_) && decide (u.old = v.old) && decide (u.new = v.new)) := by
  simp [ph_eq, HV.pure, Bool.and_assoc]

set_option maxRecDepth 100000 in
set_option maxHeartbeats 4000000 in
theorem hunk1_any {u v : HV} {BB : Nat} {w : World} (hBB : BB ≤ w.heap.size)
    (hu : Rd w BB 1 u.oA u.old.length u.oc (u.old.map .string) ∧ Rd w BB 1 u.nA u.new.length u.nc (u.new.map .string))
    (hv : Rd w BB 1 v.oA v.old.length v.oc (v.old.map .string) ∧ Rd w BB 1 v.nA v.new.length v.nc (v.new.map .string))
    (hl : u.old.length ≤ maxLen ∧ u.new.length ≤ maxLen ∧ v.old.length ≤ maxLen ∧ v.new.length ≤ maxLen) :
    Calls Try.prog 26 #[.agg #[.int .i64 u.at_, .slice u.oA u.old.length u.oc, .slice u.nA u.new.length u.nc], .agg #[.int .i64 v.at_, .slice v.oA v.old.length v.oc, .slice v.nA v.new.length v.nc]] w
      (BoolBelow (decide (u.pure = v.pure)) w) := by
  rw [ph_dec]
  obtain ⟨hu1, hu2⟩ := hu
  obtain ⟨hv1, hv2⟩ := hv
  obtain ⟨l1, l2, l3, l4⟩ := hl
  unfold maxLen at l1 l2 l3 l4
  by_cases h1 : u.at_ = v.at_
  · have HD := Lib.hid (show decide (u.at_ = v.at_) = true from decide_eq_true h1)
    rw [h1] at HD ⊢
    go_enter Try.func26, Try.ntmps26
    go_wp2_with fail
    generalize hW : ((w.alloc (Obj.cells #[Value.int IntKind.i64 v.at_, Value.slice u.oA u.old.length u.oc, Value.slice u.nA u.new.length u.nc] 29)).alloc
      (Obj.cells #[Value.int IntKind.i64 v.at_, Value.slice v.oA v.old.length v.oc, Value.slice v.nA v.new.length v.nc] 29)) = W
    have hW1 : Below w.heap.size w W := by subst hW; exact ((Below.refl _ _).alloc (Nat.le_refl _) _).alloc (by simp) _
    have hWs : W.heap.size = w.heap.size + 2 := by subst hW; simp
    have hc0 : W.cell? ⟨w.heap.size, 2, none⟩ = some (.slice u.nA u.new.length u.nc) := by subst hW; rw [cell_of_row _ _ _ _ _ _ (alloc_old (alloc_at rfl) _)]; rfl
    have hc1 : W.cell? ⟨w.heap.size + 1, 2, none⟩ = some (.slice v.nA v.new.length v.nc) := by subst hW; rw [cell_of_row _ _ _ _ _ _ (alloc_at (by simp))]; rfl
    clear hW
    refine (plain_any (by simp only [maxLen]; omega) (by simp only [maxLen]; omega) (by omega) (hu1.to (hW1.mono hBB) (Nat.le_refl _)) (hv1.to (hW1.mono hBB) (Nat.le_refl _))).mono ?_
    rintro e w1 ⟨rfl, hb1⟩
    have c0 := (hb1.cell (p := ⟨w.heap.size, 2, none⟩) (by show w.heap.size < _; omega)).trans hc0
    have c1 := (hb1.cell (p := ⟨w.heap.size + 1, 2, none⟩) (by show w.heap.size + 1 < _; omega)).trans hc1
    have hw1 : Below w.heap.size w w1 := hW1.trans (hb1.mono (by omega))
    clear hc0 hc1 hb1
    have hs1 := hw1.size
    cases hd : decide (u.old = v.old)
    · go_wp2
      go_ret
      exact ⟨ret_bool (by rw [hd]; simp), hw1⟩
    · have HW1 := Lib.hid hw1
      clear hw1
      go_wp2_with fail
      refine (plain_any (by simp only [maxLen]; omega) (by simp only [maxLen]; omega) (by omega) (hu2.to (HW1.out.mono hBB) (Nat.le_refl _)) (hv2.to (HW1.out.mono hBB) (Nat.le_refl _))).mono ?_
      rintro e w2 ⟨rfl, hb2⟩
      go_wp2
      go_ret
      exact ⟨ret_bool (by rw [hd]; simp), HW1.out.trans (hb2.mono hs1)⟩
  · obtain ⟨i1, i2⟩ := int_ne h1
    have HD := Lib.hid (show decide (u.at_ = v.at_) = false from decide_eq_false h1)
    go_enter Try.func26, Try.ntmps26
    go_wp2
    go_ret
    exact ⟨ret_bool (by rw [HD.out]; rfl), ((Below.refl _ _).alloc (Nat.le_refl _) _).alloc (by simp) _⟩

/-- Alike, up to here. -/
def EqH (xs ys : List HV) (k : Nat) : Prop := (xs.take k).map HV.pure = (ys.take k).map HV.pure
theorem EqH.succ {xs ys : List HV} {k : Nat} {u v : HV} (h : EqH xs ys k) (hx : xs[k]? = some u) (hy : ys[k]? = some v) (e : u.pure = v.pure) : EqH xs ys (k + 1) := by
  unfold EqH at *
  rw [List.take_add_one, List.take_add_one, hx, hy, List.map_append, List.map_append, h]
  simp [e]

set_option maxRecDepth 100000 in
set_option maxHeartbeats 4000000 in
theorem sameH_any {A B : Option Addr} {n ca m cb BB : Nat} {xs ys : List HV} {w : World} (hn : n ≤ 1048576) (hm : m ≤ 1048576) (hBB : BB ≤ w.heap.size)
   (ha : RdH w BB A n ca xs) (hb : RdH w BB B m cb ys) :
    Calls Try.prog 24 #[.slice A n ca, .slice B m cb, .func (.func 26) #[] #[]] w (BoolBelow (decide (xs.map HV.pure = ys.map HV.pure)) w) := by
  have HX := Lib.hid ha.len
  have HY := Lib.hid hb.len
  by_cases h : n = m
  · subst h
    go_enter Try.func24, Try.ntmps24
    go_wp2
    go_loopw [7] (fun i wr => ∃ k : Nat, k ≤ n ∧ i = .int .i64 k ∧ Below w.heap.size w wr ∧ Hid (EqH xs ys k)) (fun i _ => n - (intOf i).toNat)
    case atStart => exact ⟨0, Nat.zero_le _, rfl, Below.refl _ _, by unfold EqH; rfl⟩
    case round =>
      obtain ⟨k, hk, rfl, hbw, hj⟩ := hrel
      by_cases hlt : k < n
      · obtain ⟨b0, o0, u, rfl, hb0, hx, hxm, p0, p1, p2⟩ := ha.get hlt
        obtain ⟨b1, o1, v, rfl, hb1, hy, hym, r0, r1, r2⟩ := hb.get hlt
        have HX2 := Lib.hid hx; have HY2 := Lib.hid hy; clear hx hy
        obtain ⟨x1, x2, x3, x4, _, _⟩ := ha.parts u hxm
        obtain ⟨y1, y2, y3, y4, _, _⟩ := hb.parts v hym
        have hbs := hbw.size
        have C := hunk1_any (w := wr.drew) (BB := BB) (u := u) (v := v) (by show BB ≤ wr.heap.size; omega) ⟨x1.below (hbw.drew.mono hBB), x2.below (hbw.drew.mono hBB)⟩ ⟨y1.below (hbw.drew.mono hBB), y2.below (hbw.drew.mono hBB)⟩ (by simp only [maxLen]; omega)
        have HC := Lib.hid C
        clear C
        go_wp2
        refine wp_region_q (fun w' => Below w.heap.size w w') (qe [9] 11) mixed (by kernel_rfl) hbw.drew ?_
        intro T M Q hT hT' hM hQ
        have m0 : M ⟨b0, o0 + k * 3, none⟩ = some (.int .i64 u.at_) := hM _ _ fun w' hw => (hw.cell (p := ⟨b0, o0 + k * 3, none⟩) (by show b0 < _; omega)).trans p0
        have m1 : M ⟨b0, o0 + k * 3 + 1, none⟩ = some (.slice u.oA u.old.length u.oc) := hM _ _ fun w' hw => (hw.cell (p := ⟨b0, o0 + k * 3 + 1, none⟩) (by show b0 < _; omega)).trans p1
        have m2 : M ⟨b0, o0 + k * 3 + 2, none⟩ = some (.slice u.nA u.new.length u.nc) := hM _ _ fun w' hw => (hw.cell (p := ⟨b0, o0 + k * 3 + 2, none⟩) (by show b0 < _; omega)).trans p2
        have q0 : M ⟨b1, o1 + k * 3, none⟩ = some (.int .i64 v.at_) := hM _ _ fun w' hw => (hw.cell (p := ⟨b1, o1 + k * 3, none⟩) (by show b1 < _; omega)).trans r0
        have q1 : M ⟨b1, o1 + k * 3 + 1, none⟩ = some (.slice v.oA v.old.length v.oc) := hM _ _ fun w' hw => (hw.cell (p := ⟨b1, o1 + k * 3 + 1, none⟩) (by show b1 < _; omega)).trans r1
        have q2 : M ⟨b1, o1 + k * 3 + 2, none⟩ = some (.slice v.nA v.new.length v.nc) := hM _ _ fun w' hw => (hw.cell (p := ⟨b1, o1 + k * 3 + 2, none⟩) (by show b1 < _; omega)).trans r2
        simp only [qcmp, Nat.reduceBEq]
        simp (maxSteps := 5000000) only [↓qpre, qpost, qfacts, qnorm, m0, m1, m2, q0, q1, q2]
        refine ⟨⟨by omega, by omega⟩, ⟨by omega, by omega⟩, eff_call (by kernel_rfl) HC.out rfl rfl ?_⟩
        rintro e w1 ⟨rfl, hb1⟩
        have hbd : Below w.heap.size w w1 := hbw.drew.trans (hb1.mono hbs)
        refine ⟨_, rfl, hT _ hbd, ?_⟩
        simp (maxSteps := 5000000) only [↓qpre, qpost, qnorm]
        refine hQ _ _ ?_
        clear hQ hT hT' hM m0 m1 m2 q0 q1 q2
        cases hd : decide (u.pure = v.pure)
        · have he := of_decide_eq_false hd
          clear hd
          go_wp2
          go_ret
          refine ⟨ret_bool (decide_eq_false fun e => he ?_).symm, hbd⟩
          have := congrArg (·[k]?) e
          simp only [List.getElem?_map, HX2.out, HY2.out, Option.map_some] at this
          exact Option.some.inj this
        · have he := Lib.hid (of_decide_eq_true hd)
          clear hd
          go_wp2
          go_roundw
          case rel => exact ⟨k + 1, by omega, by go_num, hbd, hj.out.succ HX2.out HY2.out he.out⟩
          case measure => simp [intOf]; omega
      · have hkn : k = n := by omega
        subst hkn
        have HE := Lib.hid (show xs.map HV.pure = ys.map HV.pure from by
          have := hj.out
          unfold EqH at this
          rwa [List.take_of_length_le (by rw [HX.out]; exact Nat.le_refl _), List.take_of_length_le (by rw [HY.out]; exact Nat.le_refl _)] at this)
        go_wp2
        go_ret
        exact ⟨ret_bool (decide_eq_true HE.out).symm, hbw⟩
  · obtain ⟨h1, h2⟩ := int_ne (u := (n : Int)) (v := (m : Int)) (by omega)
    go_enter Try.func24, Try.ntmps24
    go_wp2
    go_ret
    refine ⟨ret_bool (decide_eq_false fun e => ?_).symm, Below.refl _ _⟩
    have := congrArg List.length e
    rw [List.length_map, List.length_map, HX.out, HY.out] at this
    exact h this
end Go.Proofs.Ytabiegbbbljhlaa
