/- The document's disk: how it lies in memory; its small functions. -/
import Derived.Test.YtabiegbbbljhlaaD12
namespace Go.Proofs.Ytabiegbbbljhlaa
open Go.RowKit

def PD.nat (d : PD) : Prop := d.down = (d.armed && decide (d.steps = 0))
theorem PD.nat_step {d : PD} (h : d.wf) (hn : d.nat) (hd : d.down = false) : d.step.nat := by
  unfold PD.step
  split
  · rename_i ha
    have h1 := h.up ha hd
    unfold PD.nat
    simp only [ha, Bool.true_and]
    by_cases h2 : d.steps - 1 = 0
    · simp [h2]
    · have h3 : ¬ d.steps - 1 ≤ 0 := by omega
      simp [h2, h3]
  · exact hn
theorem PD.nat_arm {d : PD} (hn : d.nat) (st : Int) (keep : List Int) : (d.arm st keep).nat := by
  unfold PD.arm
  split
  · exact hn
  · rfl
theorem PD.nat_put {d : PD} (hn : d.nat) (f : Int) (l : List UInt8) (s : Nat) : (d.put f l s).nat := by
  unfold PD.put
  split
  · exact hn
  · exact hn
theorem PD.nat_new (room : Int) : (PD.new room).nat := rfl
theorem PD.nat_restart (d : PD) : d.restart.nat := rfl

def rcells (d : PD) (A0 : Option Addr) (c0 : Nat) (A1 : Option Addr) (c1 : Nat) (Ak : Option Addr) (ck : Nat) : Array Value :=
  #[.int .i64 d.room, .slice A0 d.f0.length c0, .int .i64 d.s0, .slice A1 d.f1.length c1, .int .i64 d.s1, .bool d.armed, .int .i64 d.steps, .slice Ak d.keep.length ck]
structure RL (N : Nat) (w : World) (g : Nat) (d : PD) (A0 : Option Addr) (c0 : Nat) (A1 : Option Addr) (c1 : Nat) (Ak : Option Addr) (ck : Nat) : Prop where
  blk : w.heap[g]? = some (.cells (rcells d A0 c0 A1 c1 Ak ck) 98 (0, 0))
  base : N ≤ g
  d0 : Dat N 5 w A0 d.f0.length c0 (by8 d.f0)
  d1 : Dat N 5 w A1 d.f1.length c1 (by8 d.f1)
  dk : Dat N 3 w Ak d.keep.length ck (i64s d.keep)
  wf : d.wf
  nat : d.nat
def RK (N : Nat) (w : World) (g : Nat) (d : PD) : Prop := ∃ A0 c0 A1 c1 Ak ck, RL N w g d A0 c0 A1 c1 Ak ck
section
variable {N g : Nat} {w w' : World} {d : PD} {A0 A1 Ak A : Option Addr} {c0 c1 ck n c : Nat}
theorem RL.lt (h : RL N w g d A0 c0 A1 c1 Ak ck) : g < w.heap.size := (Array.getElem?_eq_some_iff.1 h.blk).1
theorem RK.lt (h : RK N w g d) : N ≤ g ∧ g < w.heap.size := by obtain ⟨_, _, _, _, _, _, h⟩ := h; exact ⟨h.base, h.lt⟩
theorem RK.wf (h : RK N w g d) : d.wf := by obtain ⟨_, _, _, _, _, _, h⟩ := h; exact h.wf
theorem RK.nat (h : RK N w g d) : d.nat := by obtain ⟨_, _, _, _, _, _, h⟩ := h; exact h.nat
theorem RL.drew (h : RL N w g d A0 c0 A1 c1 Ak ck) : RL N w.drew g d A0 c0 A1 c1 Ak ck := ⟨h.blk, h.base, h.d0.drew, h.d1.drew, h.dk.drew, h.wf, h.nat⟩
theorem RK.drew (h : RK N w g d) : RK N w.drew g d := by
  obtain ⟨A0, c0, A1, c1, Ak, ck, h⟩ := h
  exact ⟨A0, c0, A1, c1, Ak, ck, h.drew⟩
theorem RL.below (h : RL N w g d A0 c0 A1 c1 Ak ck) (hb : Below w.heap.size w w') : RL N w' g d A0 c0 A1 c1 Ak ck :=
  ⟨(hb.block g h.lt).trans h.blk, h.base, h.d0.below hb, h.d1.below hb, h.dk.below hb, h.wf, h.nat⟩
theorem RK.below (h : RK N w g d) (hb : Below w.heap.size w w') : RK N w' g d := by
  obtain ⟨A0, c0, A1, c1, Ak, ck, h⟩ := h
  exact ⟨A0, c0, A1, c1, Ak, ck, h.below hb⟩
/-- The program's disk was turned. -/
theorem RK.grown {g' : Nat} {d' : PD} (h : RK N w g d) (hg : w.grownBy w' (some g')) (h' : DK N w g' d') : RK N w' g d ∧ g ≠ g' := by
  obtain ⟨A0, c0, A1, c1, Ak, ck, h⟩ := h
  obtain ⟨_, _, _, _, _, _, h'⟩ := h'
  have hne : g ≠ g' := by
    rintro rfl
    have h1 := h.blk
    rw [h'.blk] at h1
    injection h1 with h1
    injection h1 with _ h1 _
    cases h1
  exact ⟨⟨A0, c0, A1, c1, Ak, ck, (hg.block g h.lt (fun e => hne (Option.some.inj e))).trans h.blk, h.base, h.d0.grown hg h'.base h'.blk (by decide), h.d1.grown hg h'.base h'.blk (by decide), h.dk.grown hg h'.base h'.blk (by decide), h.wf, h.nat⟩, hne⟩
/-- The document's disk was turned. -/
theorem DK.grownR {g' : Nat} {d' : PD} (h : DK N w g d) (hg : w.grownBy w' (some g')) (h' : RK N w g' d') : DK N w' g d := by
  obtain ⟨A0, c0, A1, c1, Ak, ck, h⟩ := h
  obtain ⟨_, _, _, _, _, _, h'⟩ := h'
  have hne : g ≠ g' := by
    rintro rfl
    have h1 := h.blk
    rw [h'.blk] at h1
    injection h1 with h1
    injection h1 with _ h1 _
    cases h1
  exact ⟨A0, c0, A1, c1, Ak, ck, (hg.block g h.lt (fun e => hne (Option.some.inj e))).trans h.blk, h.base, h.d0.grown hg h'.base h'.blk (by decide), h.d1.grown hg h'.base h'.blk (by decide), h.dk.grown hg h'.base h'.blk (by decide), h.wf⟩
theorem RL.at_ (h : RL N w g d A0 c0 A1 c1 Ak ck) {j : Nat} {u : Value} (hu : (rcells d A0 c0 A1 c1 Ak ck)[j]? = some u) : w.cell? ⟨g, j, none⟩ = some u := (cell_of_row w g j _ _ _ h.blk).trans hu
theorem RL.fr (h : RL N w g d A0 c0 A1 c1 Ak ck) (j : Nat) : w.frozen? ⟨g, j, none⟩ = false := frozen_of_row w g j _ _ h.blk
theorem RL.set0 (h : RL N w g d A0 c0 A1 c1 Ak ck) {l : List UInt8} (hn : l.length = n) (hd : Dat N 5 w A n c (by8 l)) (hwf : (d.put 0 l d.s0).wf) :
    RL N (w.setCell ⟨g, 1, none⟩ (.slice A n c)) g (d.put 0 l d.s0) A c A1 c1 Ak ck := by
  subst hn
  have hg := set_grown w g 1 (.slice A l.length c)
  exact ⟨heap_setCell_same w g 1 _ 98 _ h.blk, h.base, hd.grown hg h.base h.blk (by decide), h.d1.grown hg h.base h.blk (by decide), h.dk.grown hg h.base h.blk (by decide), hwf, PD.nat_put h.nat _ _ _⟩
theorem RL.set1 (h : RL N w g d A0 c0 A1 c1 Ak ck) {l : List UInt8} (hn : l.length = n) (hd : Dat N 5 w A n c (by8 l)) (hwf : (d.put 1 l d.s1).wf) :
    RL N (w.setCell ⟨g, 3, none⟩ (.slice A n c)) g (d.put 1 l d.s1) A0 c0 A c Ak ck := by
  subst hn
  have hg := set_grown w g 3 (.slice A l.length c)
  exact ⟨heap_setCell_same w g 3 _ 98 _ h.blk, h.base, h.d0.grown hg h.base h.blk (by decide), hd.grown hg h.base h.blk (by decide), h.dk.grown hg h.base h.blk (by decide), hwf, PD.nat_put h.nat _ _ _⟩
theorem RL.syn0 (h : RL N w g d A0 c0 A1 c1 Ak ck) {s : Nat} {k : Int} (hk : k = s) (hwf : (d.put 0 d.f0 s).wf) :
    RL N (w.setCell ⟨g, 2, none⟩ (.int .i64 k)) g (d.put 0 d.f0 s) A0 c0 A1 c1 Ak ck := by
  subst hk
  have hg := set_grown w g 2 (.int .i64 s)
  exact ⟨heap_setCell_same w g 2 _ 98 _ h.blk, h.base, h.d0.grown hg h.base h.blk (by decide), h.d1.grown hg h.base h.blk (by decide), h.dk.grown hg h.base h.blk (by decide), hwf, PD.nat_put h.nat _ _ _⟩
theorem RL.syn1 (h : RL N w g d A0 c0 A1 c1 Ak ck) {s : Nat} {k : Int} (hk : k = s) (hwf : (d.put 1 d.f1 s).wf) :
    RL N (w.setCell ⟨g, 4, none⟩ (.int .i64 k)) g (d.put 1 d.f1 s) A0 c0 A1 c1 Ak ck := by
  subst hk
  have hg := set_grown w g 4 (.int .i64 s)
  exact ⟨heap_setCell_same w g 4 _ 98 _ h.blk, h.base, h.d0.grown hg h.base h.blk (by decide), h.d1.grown hg h.base h.blk (by decide), h.dk.grown hg h.base h.blk (by decide), hwf, PD.nat_put h.nat _ _ _⟩
theorem RL.file0 {d' : PD} {s : Int} {l : List UInt8} (h : RL N w g d A0 c0 A1 c1 Ak ck) (hn : l.length = n) (hd : Dat N 5 w A n c (by8 l)) {s' : Nat} (hs : s = s') (he : d' = d.put 0 l s') (hwf : d'.wf) :
    RL N ((w.setCell ⟨g, 1, none⟩ (.slice A n c)).setCell ⟨g, 2, none⟩ (.int .i64 s)) g d' A c A1 c1 Ak ck := by
  subst hn hs he
  have h1 := heap_setCell_same w g 1 _ 98 (.slice A l.length c) h.blk
  have h2 := heap_setCell_same _ g 2 _ 98 (.int .i64 s') h1
  have hg := (set_grown w g 1 (.slice A l.length c)).trans (set_grown _ g 2 (.int .i64 s'))
  exact ⟨h2, h.base, hd.grown hg h.base h.blk (by decide), h.d1.grown hg h.base h.blk (by decide), h.dk.grown hg h.base h.blk (by decide), hwf, PD.nat_put h.nat _ _ _⟩
theorem RL.file1 {d' : PD} {s : Int} {l : List UInt8} (h : RL N w g d A0 c0 A1 c1 Ak ck) (hn : l.length = n) (hd : Dat N 5 w A n c (by8 l)) {s' : Nat} (hs : s = s') (he : d' = d.put 1 l s') (hwf : d'.wf) :
    RL N ((w.setCell ⟨g, 3, none⟩ (.slice A n c)).setCell ⟨g, 4, none⟩ (.int .i64 s)) g d' A0 c0 A c Ak ck := by
  subst hn hs he
  have h1 := heap_setCell_same w g 3 _ 98 (.slice A l.length c) h.blk
  have h2 := heap_setCell_same _ g 4 _ 98 (.int .i64 s') h1
  have hg := (set_grown w g 3 (.slice A l.length c)).trans (set_grown _ g 4 (.int .i64 s'))
  exact ⟨h2, h.base, h.d0.grown hg h.base h.blk (by decide), hd.grown hg h.base h.blk (by decide), h.dk.grown hg h.base h.blk (by decide), hwf, PD.nat_put h.nat _ _ _⟩
theorem RL.armed {keep : List Int} {k st : Int} (h : RL N w g d A0 c0 A1 c1 Ak ck) (hn : keep.length = n) (hd : Dat N 3 w A n c (i64s keep))
    (hdn : d.down = false) (hk : k = max st 0) (hwf : (d.arm st keep).wf) :
    RL N (((w.setCell ⟨g, 5, none⟩ (.bool true)).setCell ⟨g, 6, none⟩ (.int .i64 k)).setCell ⟨g, 7, none⟩ (.slice A n c)) g (d.arm st keep) A0 c0 A1 c1 A c ∧
    w.grownBy (((w.setCell ⟨g, 5, none⟩ (.bool true)).setCell ⟨g, 6, none⟩ (.int .i64 k)).setCell ⟨g, 7, none⟩ (.slice A n c)) (some g) := by
  subst hn hk
  have hnat := PD.nat_arm h.nat st keep
  have e : d.arm st keep = { d with armed := true, steps := max st 0, keep := keep, down := decide (max st 0 = 0) } := by unfold PD.arm; rw [if_neg (by simp [hdn])]
  rw [e] at hwf hnat ⊢
  have h1 := heap_setCell_same w g 5 _ 98 (.bool true) h.blk
  have h2 := heap_setCell_same _ g 6 _ 98 (.int .i64 (max st 0)) h1
  have h3 := heap_setCell_same _ g 7 _ 98 (.slice A keep.length c) h2
  have hg := ((set_grown w g 5 (.bool true)).trans (set_grown _ g 6 (.int .i64 (max st 0)))).trans (set_grown _ g 7 (.slice A keep.length c))
  exact ⟨⟨h3, h.base, h.d0.grown hg h.base h.blk (by decide), h.d1.grown hg h.base h.blk (by decide), hd.grown hg h.base h.blk (by decide), hwf, hnat⟩, hg⟩
end
def ROp (N g : Nat) (r : Int × PD) (w : World) (e : Ending) (w' : World) : Prop := e = .returned (.int .i64 r.1) ∧ RK N w' g r.2 ∧ w.grownBy w' (some g)
def RNew (N : Nat) (d : PD) (w : World) (e : Ending) (w' : World) : Prop := ∃ g, e = .returned (.pointer (some ⟨g, 0, none⟩)) ∧ RK N w' g d ∧ w.heap.size ≤ g ∧ Below w.heap.size w w'

set_option maxHeartbeats 1000000 in
theorem rdown_any {N g : Nat} {d : PD} {w : World} (h : RK N w g d) : Calls Try.prog 68 #[.pointer (some ⟨g, 0, none⟩)] w (fun e w' => e = .returned (.bool d.down) ∧ w' = w) := by
  have hn := h.nat
  unfold PD.nat at hn
  obtain ⟨A0, c0, A1, c1, Ak, ck, h⟩ := h
  have e5 : w.cell? ⟨g, 5, none⟩ = some (.bool d.armed) := h.at_ rfl
  have e6 : w.cell? ⟨g, 6, none⟩ = some (.int .i64 d.steps) := h.at_ rfl
  rw [hn]
  clear hn h
  cases ha : d.armed
  · rw [ha] at e5
    go_enter Try.func68, Try.ntmps68
    go_wp2
    go_ret
    exact ⟨by simp, rfl⟩
  · rw [ha] at e5
    go_enter Try.func68, Try.ntmps68
    go_wp2
    go_ret
    exact ⟨by simp [beq_dec], rfl⟩

set_option maxHeartbeats 1000000 in
theorem rask_any {N g : Nat} {d : PD} {f : Int} {w : World} (h : RK N w g d) : Calls Try.prog 66 #[.pointer (some ⟨g, 0, none⟩), .int .i64 f] w (fun e w' => e = .returned (.int .i64 (d.ask f)) ∧ w' = w) := by
  have HA := Lib.hid (show d.ask f = if d.down = true then 7 else if f < 0 ∨ 2 ≤ f then 1 else 0 from rfl)
  have HD := Lib.hid (rdown_any h)
  cases hd : d.down
  · rw [hd] at HD HA
    by_cases h1 : f < 0
    · go_enter Try.func66, Try.ntmps66
      go_wp2_with fail
      refine HD.out.mono ?_
      rintro e w1 ⟨rfl, rfl⟩
      go_wp2
      go_ret
      exact ⟨by rw [HA.out]; simp [h1], rfl⟩
    · by_cases h2 : 2 ≤ f
      · go_enter Try.func66, Try.ntmps66
        go_wp2_with fail
        refine HD.out.mono ?_
        rintro e w1 ⟨rfl, rfl⟩
        go_wp2
        go_ret
        exact ⟨by rw [HA.out]; simp [h2], rfl⟩
      · go_enter Try.func66, Try.ntmps66
        go_wp2_with fail
        refine HD.out.mono ?_
        rintro e w1 ⟨rfl, rfl⟩
        go_wp2
        go_ret
        exact ⟨by rw [HA.out]; simp [h1, h2], rfl⟩
  · rw [hd] at HD HA
    go_enter Try.func66, Try.ntmps66
    go_wp2_with fail
    refine HD.out.mono ?_
    rintro e w1 ⟨rfl, rfl⟩
    go_wp2
    go_ret
    exact ⟨by rw [HA.out]; simp, rfl⟩

set_option maxHeartbeats 1000000 in
theorem rstep_any {N g : Nat} {d : PD} {w : World} (h : RK N w g d) (hd : d.down = false) : Calls Try.prog 67 #[.pointer (some ⟨g, 0, none⟩)] w (ROp N g (0, d.step) w) := by
  have hK := h
  have hwf := PD.step_wf h.wf hd
  have hnat := PD.nat_step h.wf h.nat hd
  obtain ⟨A0, c0, A1, c1, Ak, ck, h⟩ := h
  have hst := h.wf.st
  have hup := h.wf.up
  have e5 : w.cell? ⟨g, 5, none⟩ = some (.bool d.armed) := h.at_ rfl
  have e6 : w.cell? ⟨g, 6, none⟩ = some (.int .i64 d.steps) := h.at_ rfl
  have f6 : w.frozen? ⟨g, 6, none⟩ = false := h.fr 6
  cases ha : d.armed
  · rw [ha] at e5
    have HS := Lib.hid (show d.step = d from by unfold PD.step; rw [ha]; rfl)
    go_enter Try.func67, Try.ntmps67
    go_wp2
    go_ret
    exact ⟨rfl, by rw [HS.out]; exact hK, World.grownBy.refl _ _⟩
  · rw [ha] at e5
    have h1 := hup ha hd
    have hh1 := heap_setCell_same w g 6 _ 98 (.int .i64 (d.steps - 1)) h.blk
    have hg := set_grown w g 6 (.int .i64 (d.steps - 1))
    have hD : RK N (w.setCell ⟨g, 6, none⟩ (.int .i64 (d.steps - 1))) g d.step := by
      have hs : d.step = { d with steps := d.steps - 1, down := decide (d.steps - 1 ≤ 0) } := by unfold PD.step; rw [if_pos ha]
      rw [hs] at hwf hnat ⊢
      exact ⟨A0, c0, A1, c1, Ak, ck, hh1, h.base, h.d0.grown hg h.base h.blk (by decide), h.d1.grown hg h.base h.blk (by decide), h.dk.grown hg h.base h.blk (by decide), hwf, hnat⟩
    have HD := Lib.hid hD
    have HG := Lib.hid hg
    clear hD hg hh1 hwf hK hnat
    go_enter Try.func67, Try.ntmps67
    go_wp2
    go_ret
    exact ⟨rfl, HD.out, HG.out⟩

set_option maxHeartbeats 1000000 in
theorem rsynced_any {N g : Nat} {d : PD} {f : Int} {w : World} (h : RK N w g d) : Calls Try.prog 72 #[.pointer (some ⟨g, 0, none⟩), .int .i64 f] w (fun e w' => e = .returned (.int .i64 (d.synced f)) ∧ w' = w) := by
  obtain ⟨A0, c0, A1, c1, Ak, ck, h⟩ := h
  have c2 : w.cell? ⟨g, 2, none⟩ = some (.int .i64 d.s0) := h.at_ rfl
  have c4 : w.cell? ⟨g, 4, none⟩ = some (.int .i64 d.s1) := h.at_ rfl
  have HA := Lib.hid (show d.synced f = if f < 0 ∨ 2 ≤ f then 0 else ((if f = 0 then d.s0 else d.s1 : Nat) : Int) from rfl)
  by_cases h1 : f < 0
  · go_enter Try.func72, Try.ntmps72
    go_wp2
    go_ret
    exact ⟨by rw [HA.out]; simp [h1], rfl⟩
  · by_cases h2 : 2 ≤ f
    · go_enter Try.func72, Try.ntmps72
      go_wp2
      go_ret
      exact ⟨by rw [HA.out]; simp [h2], rfl⟩
    · obtain rfl | rfl : f = 0 ∨ f = 1 := by omega
      · go_enter Try.func72, Try.ntmps72
        go_wp2
        go_ret
        exact ⟨by rw [HA.out]; simp, rfl⟩
      · go_enter Try.func72, Try.ntmps72
        go_wp2
        go_ret
        exact ⟨by rw [HA.out]; simp, rfl⟩

set_option maxRecDepth 100000 in
set_option maxHeartbeats 2000000 in
theorem rfree_any {N g : Nat} {d : PD} {w : World} (h : RK N w g d) : Calls Try.prog 69 #[.pointer (some ⟨g, 0, none⟩)] w (fun e w' => e = .returned (.int .i64 d.free) ∧ w' = w) := by
  obtain ⟨A0, c0, A1, c1, Ak, ck, h⟩ := h
  have hroom := h.wf.room
  have hfull := h.wf.full
  have e0 : w.cell? ⟨g, 0, none⟩ = some (.int .i64 d.room) := h.at_ rfl
  have e1 : w.cell? ⟨g, 1, none⟩ = some (.slice A0 d.f0.length c0) := h.at_ rfl
  have e3 : w.cell? ⟨g, 3, none⟩ = some (.slice A1 d.f1.length c1) := h.at_ rfl
  go_enter Try.func69, Try.ntmps69
  go_wp2
  go_loopw [3, 4] (fun n i wr => ∃ k : Nat, k ≤ 2 ∧ n = .int .i64 (freeAt d k) ∧ i = .int .i64 k ∧ wr = w) (fun _ i _ => 2 - (intOf i).toNat)
  case atStart => exact ⟨0, by omega, by simp [freeAt], rfl, rfl⟩
  case round =>
    obtain ⟨k, hk, rfl, rfl, rfl⟩ := hrel
    obtain rfl | rfl | rfl : k = 0 ∨ k = 1 ∨ k = 2 := by omega
    · have hf : freeAt d 0 = d.room := by simp [freeAt]
      rw [hf]
      clear hf
      rw [show ((0 : Nat) : Int) = 0 from rfl]
      go_wp2
      exact ⟨⟨1, by omega, by simp [freeAt], rfl, trivial⟩, by simp [intOf]⟩
    · have hf : freeAt d 1 = d.room - d.f0.length := by simp [freeAt]
      rw [hf]
      clear hf
      rw [show ((1 : Nat) : Int) = 1 from rfl]
      go_wp2
      exact ⟨⟨2, by omega, by simp [freeAt], rfl, trivial⟩, by simp [intOf]⟩
    · have hf : freeAt d 2 = d.free := by simp [freeAt, PD.free]
      rw [hf]
      clear hf
      go_wp2
      go_ret
      exact ⟨rfl, rfl⟩

theorem rnew_made {N : Nat} {room k : Int} {w : World} (hN : N ≤ w.heap.size) (hk : k = ((PD.new room).room : Int)) :
    RNew N (PD.new room) w (.returned (.pointer (some ⟨w.heap.size, 0, none⟩))) (w.alloc (.cells #[.int .i64 k, .slice none 0 0, .int .i64 0, .slice none 0 0, .int .i64 0, .bool false, .int .i64 0, .slice none 0 0] 98)) := by
  subst hk
  exact ⟨w.heap.size, rfl, ⟨none, 0, none, 0, none, 0, heap_alloc_new _ _, hN, Dat.none_ _ _ _, Dat.none_ _ _ _, Dat.none_ _ _ _, PD.new_wf room, PD.nat_new room⟩, Nat.le_refl _, (Below.refl _ _).alloc (Nat.le_refl _) _⟩
set_option maxHeartbeats 1000000 in
theorem rnew_any {N : Nat} {room : Int} {w : World} (hN : N ≤ w.heap.size) : Calls Try.prog 46 #[.int .i64 room] w (RNew N (PD.new room) w) := by
  have HR := Lib.hid (show ((PD.new room).room : Int) = min (max room 0) 1000000 by simp only [PD.new]; omega)
  go_enter Try.func46, Try.ntmps46
  go_wp2
  all_goals
    go_ret
    exact rnew_made hN (by rw [HR.out]; omega)
end Go.Proofs.Ytabiegbbbljhlaa
