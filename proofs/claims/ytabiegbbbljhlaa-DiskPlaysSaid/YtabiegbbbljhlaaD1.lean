/- Walks: the disk's small functions. -/
import Derived.Test.YtabiegbbbljhlaaDsk
namespace Go.Proofs.Ytabiegbbbljhlaa
open Go.RowKit

theorem run_eql_ptr (w : World) (g : Nat) : (binOp .eql 49 (.pointer (some ⟨g, 0, none⟩)) (.pointer none)).run Try.prog w = .ok (.bool false) w := by go_simp

set_option maxHeartbeats 1000000 in
theorem may_any {N g : Nat} {d : PD} {f : Int} {w : World} (h : DK N w g d) : Calls Try.prog 61 #[.pointer (some ⟨g, 0, none⟩), .int .i64 f] w (fun e w' => e = .returned (.int .i64 (d.ask f)) ∧ w' = w) := by
  obtain ⟨A0, c0, A1, c1, Ak, ck, h⟩ := h
  have c8 := cell_of_row w g 8 _ _ _ h.blk
  simp only [dcells] at c8
  replace c8 : w.cell? ⟨g, 8, none⟩ = some (.bool d.down) := c8
  have HA := Lib.hid (show d.ask f = if d.down = true then 7 else if f < 0 ∨ 2 ≤ f then 1 else 0 from rfl)
  cases hd : d.down
  · rw [hd] at c8 HA
    by_cases h1 : f < 0
    · go_enter Try.func61, Try.ntmps61
      go_wp2
      go_ret
      exact ⟨by rw [HA.out]; simp [h1], rfl⟩
    · by_cases h2 : 2 ≤ f
      · go_enter Try.func61, Try.ntmps61
        go_wp2
        go_ret
        exact ⟨by rw [HA.out]; simp [h2], rfl⟩
      · go_enter Try.func61, Try.ntmps61
        go_wp2
        go_ret
        exact ⟨by rw [HA.out]; simp [h1, h2], rfl⟩
  · rw [hd] at c8 HA
    go_enter Try.func61, Try.ntmps61
    go_wp2
    go_ret
    exact ⟨by rw [HA.out]; simp, rfl⟩

set_option maxHeartbeats 1000000 in
theorem step_any {N g : Nat} {d : PD} {w : World} (h : DK N w g d) (hd : d.down = false) : Calls Try.prog 63 #[.pointer (some ⟨g, 0, none⟩)] w (DOp N g (0, d.step) w) := by
  have hK := h
  have hwf := PD.step_wf h.wf hd
  obtain ⟨A0, c0, A1, c1, Ak, ck, h⟩ := h
  have hst := h.wf.st
  have hup := h.wf.up
  have e5 := cell_of_row w g 5 _ _ _ h.blk
  have e6 := cell_of_row w g 6 _ _ _ h.blk
  have e8 := cell_of_row w g 8 _ _ _ h.blk
  replace e5 : w.cell? ⟨g, 5, none⟩ = some (.bool d.armed) := e5
  replace e6 : w.cell? ⟨g, 6, none⟩ = some (.int .i64 d.steps) := e6
  replace e8 : w.cell? ⟨g, 8, none⟩ = some (.bool d.down) := e8
  have f6 : w.frozen? ⟨g, 6, none⟩ = false := frozen_of_row w g 6 _ _ h.blk
  have f8 : w.frozen? ⟨g, 8, none⟩ = false := frozen_of_row w g 8 _ _ h.blk
  cases ha : d.armed
  · rw [ha] at e5
    have HS := Lib.hid (show d.step = d from by unfold PD.step; rw [ha]; rfl)
    go_enter Try.func63, Try.ntmps63
    go_wp2
    go_ret
    exact ⟨rfl, by rw [HS.out]; exact hK, World.grownBy.refl _ _⟩
  · rw [ha] at e5
    have h1 := hup ha hd
    have hh1 := heap_setCell_same w g 6 _ 89 (.int .i64 (d.steps - 1)) h.blk
    have hh2 := heap_setCell_same _ g 8 _ 89 (.bool (decide (d.steps - 1 ≤ 0))) hh1
    have hg : w.grownBy ((w.setCell ⟨g, 6, none⟩ (.int .i64 (d.steps - 1))).setCell ⟨g, 8, none⟩ (.bool (decide (d.steps - 1 ≤ 0)))) (some g) :=
      ⟨rfl, rfl, rfl, by simp, fun k _ hk => (heap_setCell_other _ _ k _ (fun e => hk (by rw [e]))).trans (heap_setCell_other _ _ k _ (fun e => hk (by rw [e])))⟩
    have hD : DK N ((w.setCell ⟨g, 6, none⟩ (.int .i64 (d.steps - 1))).setCell ⟨g, 8, none⟩ (.bool (decide (d.steps - 1 ≤ 0)))) g d.step := by
      have hs : d.step = { d with steps := d.steps - 1, down := decide (d.steps - 1 ≤ 0) } := by unfold PD.step; rw [if_pos ha]
      rw [hs] at hwf ⊢
      exact ⟨A0, c0, A1, c1, Ak, ck, hh2, h.base, h.d0.grown hg h.base h.blk (by decide), h.d1.grown hg h.base h.blk (by decide), h.dk.grown hg h.base h.blk (by decide), hwf⟩
    have HD := Lib.hid hD
    have HG := Lib.hid hg
    clear hD hg hh1 hh2 hwf hK
    go_enter Try.func63, Try.ntmps63
    go_wp2
    go_ret
    exact ⟨rfl, HD.out, HG.out⟩

set_option maxHeartbeats 1000000 in
theorem down_any {N g : Nat} {d : PD} {w : World} (h : DK N w g d) : Calls Try.prog 42 #[.pointer (some ⟨g, 0, none⟩)] w (fun e w' => e = .returned (.bool d.down) ∧ w' = w) := by
  obtain ⟨A0, c0, A1, c1, Ak, ck, h⟩ := h
  have c8 := cell_of_row w g 8 _ _ _ h.blk
  replace c8 : w.cell? ⟨g, 8, none⟩ = some (.bool d.down) := c8
  go_enter Try.func42, Try.ntmps42
  go_wp2
  go_ret
  exact ⟨by simp, rfl⟩

set_option maxHeartbeats 1000000 in
theorem synced_any {N g : Nat} {d : PD} {f : Int} {w : World} (h : DK N w g d) : Calls Try.prog 40 #[.pointer (some ⟨g, 0, none⟩), .int .i64 f] w (fun e w' => e = .returned (.int .i64 (d.synced f)) ∧ w' = w) := by
  obtain ⟨A0, c0, A1, c1, Ak, ck, h⟩ := h
  have c2 := cell_of_row w g 2 _ _ _ h.blk
  have c4 := cell_of_row w g 4 _ _ _ h.blk
  replace c2 : w.cell? ⟨g, 2, none⟩ = some (.int .i64 d.s0) := c2
  replace c4 : w.cell? ⟨g, 4, none⟩ = some (.int .i64 d.s1) := c4
  have HA := Lib.hid (show d.synced f = if f < 0 ∨ 2 ≤ f then 0 else ((if f = 0 then d.s0 else d.s1 : Nat) : Int) from rfl)
  by_cases h1 : f < 0
  · go_enter Try.func40, Try.ntmps40
    go_wp2
    go_ret
    exact ⟨by rw [HA.out]; simp [h1], rfl⟩
  · by_cases h2 : 2 ≤ f
    · go_enter Try.func40, Try.ntmps40
      go_wp2
      go_ret
      exact ⟨by rw [HA.out]; simp [h2], rfl⟩
    · obtain rfl | rfl : f = 0 ∨ f = 1 := by omega
      · go_enter Try.func40, Try.ntmps40
        go_wp2
        go_ret
        exact ⟨by rw [HA.out]; simp, rfl⟩
      · go_enter Try.func40, Try.ntmps40
        go_wp2
        go_ret
        exact ⟨by rw [HA.out]; simp, rfl⟩

set_option maxHeartbeats 1000000 in
theorem clip_any {A : Option Addr} {n c : Nat} {w : World} (hc : n ≤ c) (hn : n ≤ 1048576) : Calls Try.prog 62 #[.slice A n c] w (fun e w' => e = .returned (.slice A n n) ∧ w' = w) := by
  go_enter Try.func62, Try.ntmps62
  go_wp2
  go_ret
  exact ⟨rfl, rfl⟩

theorem run_index87_0 (w : World) (A0 A1 : Option Addr) (n0 c0 n1 c1 : Nat) (s0 s1 : Int) :
    (Instr.index 87 (.agg #[.slice A0 n0 c0, .int .i64 s0, .slice A1 n1 c1, .int .i64 s1]) (.int .i64 0)).run Try.prog w = .ok (.agg #[.slice A0 n0 c0, .int .i64 s0]) w := by
  simp [Instr.index, run_underlying Try.underlying87, asIntOf]
  go_simp
theorem run_index87_1 (w : World) (A0 A1 : Option Addr) (n0 c0 n1 c1 : Nat) (s0 s1 : Int) :
    (Instr.index 87 (.agg #[.slice A0 n0 c0, .int .i64 s0, .slice A1 n1 c1, .int .i64 s1]) (.int .i64 1)).run Try.prog w = .ok (.agg #[.slice A1 n1 c1, .int .i64 s1]) w := by
  simp [Instr.index, run_underlying Try.underlying87, asIntOf]
  go_simp

def freeAt (d : PD) (k : Nat) : Int := (d.room : Int) - (if 0 < k then (d.f0.length : Int) else 0) - (if 1 < k then (d.f1.length : Int) else 0)
set_option maxRecDepth 100000 in
set_option maxHeartbeats 2000000 in
theorem free_any {N g : Nat} {d : PD} {w : World} (h : DK N w g d) : Calls Try.prog 44 #[.pointer (some ⟨g, 0, none⟩)] w (fun e w' => e = .returned (.int .i64 d.free) ∧ Below w.heap.size w w') := by
  obtain ⟨A0, c0, A1, c1, Ak, ck, h⟩ := h
  have hroom := h.wf.room
  have hfull := h.wf.full
  have c0' := cell_of_row w g 0 _ _ _ h.blk
  have c1' := cell_of_row w g 1 _ _ _ h.blk
  have c2 := cell_of_row w g 2 _ _ _ h.blk
  have c3 := cell_of_row w g 3 _ _ _ h.blk
  have c4 := cell_of_row w g 4 _ _ _ h.blk
  replace c0' : w.cell? ⟨g, 0, none⟩ = some (.int .i64 d.room) := c0'
  replace c1' : w.cell? ⟨g, 1, none⟩ = some (.slice A0 d.f0.length c0) := c1'
  replace c2 : w.cell? ⟨g, 2, none⟩ = some (.int .i64 d.s0) := c2
  replace c3 : w.cell? ⟨g, 3, none⟩ = some (.slice A1 d.f1.length c1) := c3
  replace c4 : w.cell? ⟨g, 4, none⟩ = some (.int .i64 d.s1) := c4
  go_enter Try.func44, Try.ntmps44
  go_wp2
  go_loopw [3, 16] (fun n i wr => ∃ k : Nat, k ≤ 2 ∧ n = .int .i64 (freeAt d k) ∧ i = .int .i64 k ∧ Below w.heap.size w wr) (fun _ i _ => 2 - (intOf i).toNat)
  case atStart => exact ⟨0, by omega, by simp [freeAt], rfl, Below.refl _ _⟩
  case round =>
    obtain ⟨k, hk, rfl, rfl, hb⟩ := hrel
    have hws := hb.size
    obtain rfl | rfl | rfl : k = 0 ∨ k = 1 ∨ k = 2 := by omega
    · have hf : freeAt d 0 = d.room := by simp [freeAt]
      rw [hf]
      clear hf
      rw [show ((0 : Nat) : Int) = 0 from rfl]
      have HB := Lib.hid (hb.alloc hws (.cells #[.slice A0 d.f0.length c0, .int .i64 d.s0] 86))
      go_wp2
      rw [run_index87_0]
      go_wp2
      exact ⟨⟨1, by omega, by simp [freeAt], rfl, HB.out⟩, by simp [intOf]⟩
    · have hf : freeAt d 1 = d.room - d.f0.length := by simp [freeAt]
      rw [hf]
      clear hf
      rw [show ((1 : Nat) : Int) = 1 from rfl]
      have HB := Lib.hid (hb.alloc hws (.cells #[.slice A1 d.f1.length c1, .int .i64 d.s1] 86))
      go_wp2
      rw [run_index87_1]
      go_wp2
      exact ⟨⟨2, by omega, by simp [freeAt], rfl, HB.out⟩, by simp [intOf]⟩
    · have hf : freeAt d 2 = d.free := by simp [freeAt, PD.free]
      rw [hf]
      clear hf
      go_wp2
      go_ret
      exact ⟨rfl, hb⟩

theorem E48 : Elem Try.prog 48 5 1 1 := elem_of (by kernel_rfl)
theorem E64i : Elem Try.prog 64 3 1 8 := elem_of (by kernel_rfl)
def RowD (e : TypeId) (n : Nat) (xs : List Value) (w : World) (en : Ending) (w' : World) : Prop := ∃ v, en = .returned v ∧ w'.ownsRow w.heap.size e 1 v n xs ∧ Below w.heap.size w w'

set_option maxRecDepth 100000 in
set_option maxHeartbeats 4000000 in
theorem cloneB_any {A : Option Addr} {n c BB : Nat} {xs : List Value} {w : World} (hn : n ≤ 1048576) (hBB : BB ≤ w.heap.size) (ha : Rd w BB 1 A n c xs) (h1 : ∀ u ∈ xs, u.oneCell' = true) :
    Calls Try.prog 64 #[.slice A n c] w (RowD 5 n xs w) := by
  have HL := Lib.hid (show xs.length = n by have := ha.len; omega)
  cases A with
  | none =>
    have h0 : n = 0 := by
      rcases Nat.eq_zero_or_pos n with h | h
      · exact h
      · obtain ⟨b, o, e, _⟩ := ha.at_ h; cases e
    subst h0
    have hN := Lib.run_eql_slice_nil (P := Try.prog) w 48 5 none 0 c 0 0 Try.underlying48
    go_enter Try.func64, Try.ntmps64
    go_wp2
    go_ret
    have : xs = [] := List.eq_nil_of_length_eq_zero HL.out
    subst this
    exact ⟨_, rfl, World.ownsRow_nil _ _ _ _, Below.refl _ _⟩
  | some p =>
    have hown : (w.alloc (.cells #[] 5)).ownsRow w.heap.size 5 1 (.slice (some ⟨w.heap.size, 0, none⟩) 0 0) 0 [] :=
      ⟨rfl, .inr ⟨w.heap.size, 0, #[], rfl, Nat.le_refl _, heap_alloc_new _ _, Nat.le_refl _, Nat.zero_le _, rfl, rfl⟩⟩
    have HO := Lib.hid hown
    clear hown
    have hN := Lib.run_eql_slice_nil (P := Try.prog) w 48 5 (some p) n c 0 0 Try.underlying48
    go_enter Try.func64, Try.ntmps64
    go_wp2_with (at_builtin; refine wpl_append rfl (.tmp 5) (.tmp 6) 48 rfl E48 (base := w.heap.size) (B := w.heap.size) rfl rfl HO.out ((ha.more hBB).below ((Below.refl _ _).alloc (Nat.le_refl _) _)) h1 (by simp only [maxLen]; omega) (by omega) (by simp) ?_; intro v4 w4 ho4 hg4 hat4)
    go_ret
    rw [Nat.zero_add, List.nil_append] at ho4
    exact ⟨v4, rfl, ho4, ((Below.refl _ _).alloc (Nat.le_refl _) _).grown hg4 (by simp) (fun g hg => by obtain rfl := (Option.some.inj hg); exact Nat.le_refl _)⟩

set_option maxRecDepth 100000 in
set_option maxHeartbeats 4000000 in
theorem cloneI_any {A : Option Addr} {n c BB : Nat} {xs : List Value} {w : World} (hn : n ≤ 17592186044416) (hBB : BB ≤ w.heap.size) (ha : Rd w BB 1 A n c xs) (h1 : ∀ u ∈ xs, u.oneCell' = true) :
    Calls Try.prog 65 #[.slice A n c] w (RowD 3 n xs w) := by
  have HL := Lib.hid (show xs.length = n by have := ha.len; omega)
  cases A with
  | none =>
    have h0 : n = 0 := by
      rcases Nat.eq_zero_or_pos n with h | h
      · exact h
      · obtain ⟨b, o, e, _⟩ := ha.at_ h; cases e
    subst h0
    have hN := Lib.run_eql_slice_nil (P := Try.prog) w 64 3 none 0 c 0 0 Try.underlying64
    go_enter Try.func65, Try.ntmps65
    go_wp2
    go_ret
    have : xs = [] := List.eq_nil_of_length_eq_zero HL.out
    subst this
    exact ⟨_, rfl, World.ownsRow_nil _ _ _ _, Below.refl _ _⟩
  | some p =>
    have hown : (w.alloc (.cells #[] 3)).ownsRow w.heap.size 3 1 (.slice (some ⟨w.heap.size, 0, none⟩) 0 0) 0 [] :=
      ⟨rfl, .inr ⟨w.heap.size, 0, #[], rfl, Nat.le_refl _, heap_alloc_new _ _, Nat.le_refl _, Nat.zero_le _, rfl, rfl⟩⟩
    have HO := Lib.hid hown
    clear hown
    have hN := Lib.run_eql_slice_nil (P := Try.prog) w 64 3 (some p) n c 0 0 Try.underlying64
    go_enter Try.func65, Try.ntmps65
    go_wp2_with (at_builtin; refine wpl_append rfl (.tmp 5) (.tmp 6) 64 rfl E64i (base := w.heap.size) (B := w.heap.size) rfl rfl HO.out ((ha.more hBB).below ((Below.refl _ _).alloc (Nat.le_refl _) _)) h1 (by simp only [maxLen]; omega) (by omega) (by simp) ?_; intro v4 w4 ho4 hg4 hat4)
    go_ret
    rw [Nat.zero_add, List.nil_append] at ho4
    exact ⟨v4, rfl, ho4, ((Below.refl _ _).alloc (Nat.le_refl _) _).grown hg4 (by simp) (fun g hg => by obtain rfl := (Option.some.inj hg); exact Nat.le_refl _)⟩
end Go.Proofs.Ytabiegbbbljhlaa
