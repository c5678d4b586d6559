/- Walks: marker.Obsolete, marker.Right, and what of slices they call. -/
import Derived.Test.YtnkboccngialiaaM1
namespace Go.Proofs.Ytnkboccngialiaa
open Go.RowKit

/-! ### Obsolete -/
set_option maxHeartbeats 1000000 in
theorem obsPred_any (o : Int) (v : Value) (x : Int) (g : Nat) (w : World) (hg : w.cell? ⟨g, 0, none⟩ = some (.int .i64 x)) (hgl : g < w.heap.size) :
    Calls Try.prog 38 #[.agg #[.int .i64 o, v], .pointer (some ⟨g, 0, none⟩)] w (BoolBelow (decide (o = x)) w) := by
  have h1 : (w.alloc (.cells #[.int .i64 o, v] 35)).cell? ⟨g, 0, none⟩ = some (.int .i64 x) := by rw [((Below.refl w.heap.size w).alloc (Nat.le_refl _) _).cell (p := ⟨g, 0, none⟩) hgl]; exact hg
  have hbd : Below w.heap.size w (w.alloc (.cells #[.int .i64 o, v] 35)) := (Below.refl _ _).alloc (Nat.le_refl _) _
  go_enter Try.func38, Try.ntmps38
  go_wp2
  go_ret
  refine ⟨ret_bool ?_, hbd⟩
  by_cases h : o = x <;> simp [h]

set_option maxRecDepth 100000 in
set_option maxHeartbeats 4000000 in
theorem obsIdx_any {A : Option Addr} {n c : Nat} {ms : List MV} {x : Int} {g : Nat} {w : World} (hn : n ≤ maxLen) (h : RdM w w.heap.size A n c ms) (hg : w.cell? ⟨g, 0, none⟩ = some (.int .i64 x)) (hgl : g < w.heap.size) :
    Calls Try.prog 57 #[.slice A n c, .func (.func 38) #[] #[.pointer (some ⟨g, 0, none⟩)]] w fun e w' => ∃ r : Int, e = .returned (.int .i64 r) ∧ decide (0 ≤ r) = obs ms x ∧ Below w.heap.size w w' := by
  unfold maxLen at hn
  have HL := Lib.hid h.len
  go_enter Try.func57, Try.ntmps57
  go_wp2
  go_loopw [5, 8] (fun _ i wr => ∃ k : Nat, k ≤ n ∧ i = .int .i64 k ∧ Below w.heap.size w wr ∧ Hid (obs (ms.take k) x = false)) (fun _ i _ => n - (intOf i).toNat)
  case atStart => exact ⟨0, Nat.zero_le _, rfl, Below.refl _ _, by rw [List.take_zero]; rfl⟩
  case round =>
    obtain ⟨k, hk, rfl, hb, hj⟩ := hrel
    by_cases hlt : k < n
    · obtain ⟨b0, o0, u, rfl, hbb, hx, hu, h0, h1⟩ := h.get hlt
      replace h0 := (hb.cell hbb).trans h0
      replace h1 := (hb.cell hbb).trans h1
      have HX := Lib.hid hx; clear hx
      have hcall := obsPred_any u.old (.slice u.A u.new.length u.c) x g wr ((hb.cell (p := ⟨g, 0, none⟩) hgl).trans hg) (Nat.lt_of_lt_of_le hgl hb.size)
      cases hq : decide (u.old = x) with
      | true =>
        rw [hq] at hcall
        go_wp2_with (go_at_call 38; refine hcall.mono ?_; rintro e w' ⟨rfl, hb'⟩)
        go_ret
        refine ⟨_, rfl, ?_, hb.trans (hb'.mono hb.size)⟩
        rw [obs_iff.2 ⟨u, hu, of_decide_eq_true hq⟩, decide_eq_true (by omega)]
      | false =>
        rw [hq] at hcall
        go_wp2_with (go_at_call 38; refine hcall.mono ?_; rintro e w' ⟨rfl, hb'⟩)
        go_roundw
        case rel =>
          refine ⟨k + 1, by omega, by go_num, hb.trans (hb'.mono hb.size), ?_⟩
          show obs (ms.take (k + 1)) x = false
          rw [List.take_add_one, HX.out, Option.toList_some, obs_snoc, hj.out, hq]; rfl
        case measure => simp [intOf]; omega
    · have hkn : k = n := by omega
      subst hkn
      go_wp2
      go_ret
      refine ⟨_, rfl, ?_, hb⟩
      have := hj.out
      rw [List.take_of_length_le (by rw [HL.out]; omega)] at this
      rw [this]; decide

set_option maxHeartbeats 1000000 in
theorem obsCont_any {A : Option Addr} {n c : Nat} {ms : List MV} {x : Int} {g : Nat} {w : World} (hn : n ≤ maxLen) (h : RdM w w.heap.size A n c ms) (hg : w.cell? ⟨g, 0, none⟩ = some (.int .i64 x)) (hgl : g < w.heap.size) :
    Calls Try.prog 37 #[.slice A n c, .func (.func 38) #[] #[.pointer (some ⟨g, 0, none⟩)]] w (BoolBelow (obs ms x) w) := by
  go_enter Try.func37, Try.ntmps37
  go_wp2_with (go_at_call 57; refine (obsIdx_any hn h hg hgl).mono ?_; rintro e w' ⟨r, rfl, hr, hb'⟩)
  go_ret
  exact ⟨ret_bool (by rw [← hr]), hb'⟩

set_option maxHeartbeats 1000000 in
theorem obsolete_any {A : Option Addr} {n c : Nat} {ms : List MV} {x : Int} {w : World} (hn : n ≤ maxLen) (h : RdM w w.heap.size A n c ms) :
    Calls Try.prog 14 #[.slice A n c, .int .i64 x] w (BoolBelow (obs ms x) w) := by
  have hb : Below w.heap.size w (w.alloc (.cells #[.int .i64 x] 3)) := (Below.refl _ _).alloc (Nat.le_refl _) _
  have h1 := h.to hb hb.size
  have hg : (w.alloc (.cells #[.int .i64 x] 3)).cell? ⟨w.heap.size, 0, none⟩ = some (.int .i64 x) := (cell_of_row _ _ _ _ _ _ (heap_alloc_new _ _)).trans rfl
  have hgl : w.heap.size < (w.alloc (.cells #[.int .i64 x] 3)).heap.size := by simp
  go_enter Try.func14, Try.ntmps14
  go_wp2_with (go_at_call 37; refine (obsCont_any hn h1 hg hgl).mono ?_; rintro e w' ⟨rfl, hb'⟩)
  go_ret
  exact ⟨rfl, hb.trans (hb'.mono hb.size)⟩

/-! ### Right -/
def badI (o n x : Int) : Bool := decide (x ≤ o) || decide (n ≤ x)
set_option maxHeartbeats 1000000 in
theorem rightPred_any (o n x : Int) (g k : Nat) (w : World) (hg : w.cell? ⟨g, 0, none⟩ = some (.int .i64 o)) (hk : w.cell? ⟨k, 0, none⟩ = some (.int .i64 n)) :
    Calls Try.prog 36 #[.int .i64 x, .pointer (some ⟨g, 0, none⟩), .pointer (some ⟨k, 0, none⟩)] w fun e w' => e = .returned (.bool (badI o n x)) ∧ w' = w := by
  go_enter Try.func36, Try.ntmps36
  go_wp2
  all_goals (go_ret; refine ⟨ret_bool ?_, rfl⟩; simp_all [badI])

set_option maxRecDepth 100000 in
set_option maxHeartbeats 4000000 in
theorem rightIdx_any {A : Option Addr} {m c : Nat} {l : List Int} {o n : Int} {g k : Nat} {w : World} (hn : m ≤ maxLen) (h : Rd w w.heap.size 1 A m c (l.map (.int .i64))) (hg : w.cell? ⟨g, 0, none⟩ = some (.int .i64 o)) (hk : w.cell? ⟨k, 0, none⟩ = some (.int .i64 n))
    (hgl : g < w.heap.size) (hkl : k < w.heap.size) :
    Calls Try.prog 56 #[.slice A m c, .func (.func 36) #[] #[.pointer (some ⟨g, 0, none⟩), .pointer (some ⟨k, 0, none⟩)]] w fun e w' => ∃ r : Int, e = .returned (.int .i64 r) ∧ decide (0 ≤ r) = l.any (badI o n) ∧ Below w.heap.size w w' := by
  unfold maxLen at hn
  have HL := Lib.hid (show l.length = m by have := h.len; simpa using this)
  go_enter Try.func56, Try.ntmps56
  go_wp2
  go_loopw [5, 8] (fun _ i wr => ∃ k : Nat, k ≤ m ∧ i = .int .i64 k ∧ Below w.heap.size w wr ∧ Hid ((l.take k).any (badI o n) = false)) (fun _ i _ => m - (intOf i).toNat)
  case atStart => exact ⟨0, Nat.zero_le _, rfl, Below.refl _ _, by rw [List.take_zero]; rfl⟩
  case round =>
    obtain ⟨j, hj', rfl, hb, hj⟩ := hrel
    by_cases hlt : j < m
    · obtain ⟨b0, o0, u, rfl, hbb, hx, h0⟩ := h.int_ hlt
      replace h0 := (hb.cell hbb).trans h0
      have HX := Lib.hid hx; clear hx
      have hcall := rightPred_any o n u g k wr ((hb.cell (p := ⟨g, 0, none⟩) hgl).trans hg) ((hb.cell (p := ⟨k, 0, none⟩) hkl).trans hk)
      cases hq : badI o n u with
      | true =>
        rw [hq] at hcall
        go_wp2_with (go_at_call 36; refine hcall.mono ?_; rintro e w' ⟨rfl, rfl⟩)
        go_ret
        refine ⟨_, rfl, ?_, hb⟩
        rw [List.any_eq_true.2 ⟨u, List.mem_of_getElem? HX.out, hq⟩, decide_eq_true (by omega)]
      | false =>
        rw [hq] at hcall
        go_wp2_with (go_at_call 36; refine hcall.mono ?_; rintro e w' ⟨rfl, rfl⟩)
        go_roundw
        case rel =>
          refine ⟨j + 1, by omega, by go_num, hb, ?_⟩
          show (l.take (j + 1)).any (badI o n) = false
          rw [List.take_add_one, HX.out, Option.toList_some, List.any_append, hj.out]; simp [hq]
        case measure => simp [intOf]; omega
    · have hkn : j = m := by omega
      subst hkn
      go_wp2
      go_ret
      refine ⟨_, rfl, ?_, hb⟩
      have := hj.out
      rw [List.take_of_length_le (by rw [HL.out]; omega)] at this
      rw [this]; decide

set_option maxHeartbeats 1000000 in
theorem rightCont_any {A : Option Addr} {m c : Nat} {l : List Int} {o n : Int} {g k : Nat} {w : World} (hn : m ≤ maxLen) (h : Rd w w.heap.size 1 A m c (l.map (.int .i64))) (hg : w.cell? ⟨g, 0, none⟩ = some (.int .i64 o)) (hk : w.cell? ⟨k, 0, none⟩ = some (.int .i64 n))
    (hgl : g < w.heap.size) (hkl : k < w.heap.size) :
    Calls Try.prog 35 #[.slice A m c, .func (.func 36) #[] #[.pointer (some ⟨g, 0, none⟩), .pointer (some ⟨k, 0, none⟩)]] w (BoolBelow (l.any (badI o n)) w) := by
  go_enter Try.func35, Try.ntmps35
  go_wp2_with (go_at_call 56; refine (rightIdx_any hn h hg hk hgl hkl).mono ?_; rintro e w' ⟨r, rfl, hr, hb'⟩)
  go_ret
  exact ⟨ret_bool (by rw [← hr]), hb'⟩
theorem okM_iff (n : Int) (m : MV) : okM n m = !(decide (m.old < 0) || decide (n ≤ m.old) || decide (2000 < (m.new.length : Int)) || m.new.any (badI m.old n)) := by
  have e : m.new.any (badI m.old n) = !(m.new.all fun x => decide (m.old < x) && decide (x < n)) := by
    rw [List.all_eq_not_any_not, Bool.not_not]
    congr 1; funext x
    simp only [badI, Bool.not_and]
    congr 1
    · by_cases h : x ≤ m.old <;> simp [h] <;> omega
    · by_cases h : n ≤ x <;> simp [h] <;> omega
  rw [e]
  simp only [okM, Bool.not_or, Bool.not_not]
  congr 1
  congr 1
  · congr 1
    · by_cases h : m.old < 0 <;> simp [h] <;> omega
    · by_cases h : n ≤ m.old <;> simp [h] <;> omega
  · by_cases h : m.new.length ≤ 2000 <;> simp [h] <;> omega
end Go.Proofs.Ytnkboccngialiaa
