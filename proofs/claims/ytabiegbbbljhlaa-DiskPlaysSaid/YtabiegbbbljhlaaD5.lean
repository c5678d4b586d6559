/- Walks: Arm, Fork; two texts of bytes. -/
import Derived.Test.YtabiegbbbljhlaaD4
namespace Go.Proofs.Ytabiegbbbljhlaa
open Go.RowKit

theorem beq_dec (a b : Int) : (a == b) = decide (a = b) := by
  by_cases h : a = b
  · simp [h]
  · simp [h]
theorem PD.arm_wf {d : PD} (h : d.wf) {st : Int} {keep : List Int} (hst : st ≤ 9223372036854775807) (hk : ∀ k ∈ keep, -9223372036854775808 ≤ k ∧ k ≤ 9223372036854775807) (hl : keep.length ≤ 17592186044416) : (d.arm st keep).wf := by
  unfold PD.arm
  split
  · exact h
  · refine ⟨h.room, h.full, h.s0, h.s1, by simp only; omega, fun _ hd => ?_, hk, by simp only; omega⟩
    simp only [decide_eq_false_iff_not] at hd
    simp only
    omega
theorem DL.armed {N g : Nat} {w : World} {d : PD} {A0 A1 Ak A : Option Addr} {c0 c1 ck n c : Nat} {keep : List Int} {k : Int} {st : Int} {b : Bool} (h : DL N w g d A0 c0 A1 c1 Ak ck) (hn : keep.length = n) (hd : Dat N 3 w A n c (i64s keep))
    (hdn : d.down = false) (hk : k = max st 0) (hb : b = decide (max st 0 = 0)) (hwf : (d.arm st keep).wf) :
    DL N ((((w.setCell ⟨g, 5, none⟩ (.bool true)).setCell ⟨g, 6, none⟩ (.int .i64 k)).setCell ⟨g, 7, none⟩ (.slice A n c)).setCell ⟨g, 8, none⟩ (.bool b)) g (d.arm st keep) A0 c0 A1 c1 A c ∧
    w.grownBy ((((w.setCell ⟨g, 5, none⟩ (.bool true)).setCell ⟨g, 6, none⟩ (.int .i64 k)).setCell ⟨g, 7, none⟩ (.slice A n c)).setCell ⟨g, 8, none⟩ (.bool b)) (some g) := by
  subst hn hk hb
  have e : d.arm st keep = { d with armed := true, steps := max st 0, keep := keep, down := decide (max st 0 = 0) } := by unfold PD.arm; rw [if_neg (by simp [hdn])]
  rw [e] at hwf ⊢
  have h1 := heap_setCell_same w g 5 _ 89 (.bool true) h.blk
  have h2 := heap_setCell_same _ g 6 _ 89 (.int .i64 (max st 0)) h1
  have h3 := heap_setCell_same _ g 7 _ 89 (.slice A keep.length c) h2
  have h4 := heap_setCell_same _ g 8 _ 89 (.bool (decide (max st 0 = 0))) h3
  have hg := (((set_grown w g 5 (.bool true)).trans (set_grown _ g 6 (.int .i64 (max st 0)))).trans (set_grown _ g 7 (.slice A keep.length c))).trans (set_grown _ g 8 (.bool (decide (max st 0 = 0))))
  exact ⟨⟨h4, h.base, h.d0.grown hg h.base h.blk (by decide), h.d1.grown hg h.base h.blk (by decide), hd.grown hg h.base h.blk (by decide), hwf⟩, hg⟩

set_option maxRecDepth 100000 in
set_option maxHeartbeats 2000000 in
theorem arm_any {N g : Nat} {d : PD} {st : Int} {K : Option Addr} {nk ck' BB : Nat} {keep : List Int} {w : World} (h : DK N w g d) (hst : st ≤ 9223372036854775807) (hBB : BB ≤ w.heap.size)
    (hr : Rd w BB 1 K nk ck' (i64s keep)) (hk : ∀ k ∈ keep, -9223372036854775808 ≤ k ∧ k ≤ 9223372036854775807) (hl : nk ≤ 17592186044416) :
    Calls Try.prog 41 #[.pointer (some ⟨g, 0, none⟩), .int .i64 st, .slice K nk ck'] w (fun e w' => e = .returned (.tuple #[]) ∧ DK N w' g (d.arm st keep) ∧ w.grownBy w' (some g)) := by
  have hkl : keep.length = nk := by have := hr.len; rw [i64s_len] at this; omega
  have hK := h
  obtain ⟨A0, c0, A1, c1, Ak, ck, hD⟩ := h
  have e8 : w.cell? ⟨g, 8, none⟩ = some (.bool d.down) := hD.at_ rfl
  cases hdn : d.down
  · rw [hdn] at e8
    have hwf := PD.arm_wf hK.wf hst hk (by omega)
    by_cases c1 : 0 ≤ st
    · go_enter Try.func41, Try.ntmps41
      go_wp2_with fail
      refine (cloneI_any hl hBB hr (i64s_one _)).mono ?_
      rintro e w1 ⟨v, rfl, ho, hb1⟩
      obtain ⟨A', c', rfl, hc'⟩ := ownsRow_cap ho
      have hD1 := hD.below hb1
      have e5 : w1.cell? ⟨g, 5, none⟩ = some (.bool d.armed) := hD1.at_ rfl
      have e6 : w1.cell? ⟨g, 6, none⟩ = some (.int .i64 d.steps) := hD1.at_ rfl
      have e7 : w1.cell? ⟨g, 7, none⟩ = some (.slice Ak d.keep.length ck) := hD1.at_ rfl
      have e8' : w1.cell? ⟨g, 8, none⟩ = some (.bool d.down) := hD1.at_ rfl
      have f5 := hD1.fr 5
      have f6 := hD1.fr 6
      have f7 := hD1.fr 7
      have f8 := hD1.fr 8
      have HA := Lib.hid (hD1.armed (k := st) (st := st) (b := (st == 0)) hkl (Dat.of_own ho hc') hdn (by omega) (by rw [show max st 0 = st by omega]; exact beq_dec st 0) hwf)
      have HG := Lib.hid (grownBy_below hb1 (some g))
      clear hD1 ho hb1 hwf hK hD
      go_wp2
      refine bodyPost_end (results_none rfl _ _ _) rfl ?_
      exact ⟨rfl, ⟨_, _, _, _, _, _, HA.out.1⟩, HG.out.trans HA.out.2⟩
    · go_enter Try.func41, Try.ntmps41
      go_wp2_with fail
      refine (cloneI_any hl hBB hr (i64s_one _)).mono ?_
      rintro e w1 ⟨v, rfl, ho, hb1⟩
      obtain ⟨A', c', rfl, hc'⟩ := ownsRow_cap ho
      have hD1 := hD.below hb1
      have e5 : w1.cell? ⟨g, 5, none⟩ = some (.bool d.armed) := hD1.at_ rfl
      have e6 : w1.cell? ⟨g, 6, none⟩ = some (.int .i64 d.steps) := hD1.at_ rfl
      have e7 : w1.cell? ⟨g, 7, none⟩ = some (.slice Ak d.keep.length ck) := hD1.at_ rfl
      have e8' : w1.cell? ⟨g, 8, none⟩ = some (.bool d.down) := hD1.at_ rfl
      have f5 := hD1.fr 5
      have f6 := hD1.fr 6
      have f7 := hD1.fr 7
      have f8 := hD1.fr 8
      have HA := Lib.hid (hD1.armed (k := 0) (st := st) (b := ((0 : Int) == 0)) hkl (Dat.of_own ho hc') hdn (by omega) (by rw [show max st 0 = 0 by omega]; rfl) hwf)
      have HG := Lib.hid (grownBy_below hb1 (some g))
      clear hD1 ho hb1 hwf hK hD
      go_wp2
      refine bodyPost_end (results_none rfl _ _ _) rfl ?_
      exact ⟨rfl, ⟨_, _, _, _, _, _, HA.out.1⟩, HG.out.trans HA.out.2⟩
  · rw [hdn] at e8
    have HA := Lib.hid (show d.arm st keep = d by unfold PD.arm; rw [if_pos hdn])
    go_enter Try.func41, Try.ntmps41
    go_wp2
    refine bodyPost_ret (results_none rfl _ _ _) rfl ?_
    rw [HA.out]
    exact ⟨rfl, hK, World.grownBy.refl _ _⟩
end Go.Proofs.Ytabiegbbbljhlaa
