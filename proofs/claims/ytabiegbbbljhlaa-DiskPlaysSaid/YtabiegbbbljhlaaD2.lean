/- Walks: the disk's functions. -/
import Derived.Test.YtabiegbbbljhlaaD1
namespace Go.Proofs.Ytabiegbbbljhlaa
open Go.RowKit

def DNew (N : Nat) (d : PD) (w : World) (e : Ending) (w' : World) : Prop := ∃ g, e = .returned (.pointer (some ⟨g, 0, none⟩)) ∧ DK N w' g d ∧ w.heap.size ≤ g ∧ Below w.heap.size w w'
theorem PD.new_wf (room : Int) : (PD.new room).wf := by
  refine ⟨by simp only [PD.new]; omega, by simp [PD.new], by simp [PD.new], by simp [PD.new], by simp [PD.new], by simp [PD.new], by simp [PD.new], by simp [PD.new]⟩

theorem new_made {N : Nat} {room k : Int} {w : World} (hN : N ≤ w.heap.size) (hk : k = ((PD.new room).room : Int)) :
    DNew N (PD.new room) w (.returned (.pointer (some ⟨w.heap.size, 0, none⟩))) (w.alloc (.cells #[.int .i64 k, .slice none 0 0, .int .i64 0, .slice none 0 0, .int .i64 0, .bool false, .int .i64 0, .slice none 0 0, .bool false] 89)) := by
  subst hk
  exact ⟨w.heap.size, rfl, ⟨none, 0, none, 0, none, 0, heap_alloc_new _ _, hN, Dat.none_ _ _ _, Dat.none_ _ _ _, Dat.none_ _ _ _, PD.new_wf room⟩, Nat.le_refl _, (Below.refl _ _).alloc (Nat.le_refl _) _⟩

set_option maxHeartbeats 1000000 in
theorem new_any {N : Nat} {room : Int} {w : World} (hN : N ≤ w.heap.size) : Calls Try.prog 34 #[.int .i64 room] w (DNew N (PD.new room) w) := by
  have HR := Lib.hid (show ((PD.new room).room : Int) = min (max room 0) 1000000 by simp only [PD.new]; omega)
  go_enter Try.func34, Try.ntmps34
  go_wp2
  all_goals
    go_ret
    exact new_made hN (by rw [HR.out]; omega)

set_option maxHeartbeats 1000000 in
theorem read_any {N g : Nat} {d : PD} {f : Int} {w : World} (h : DK N w g d) :
    Calls Try.prog 38 #[.pointer (some ⟨g, 0, none⟩), .int .i64 f] w (fun e w' => ∃ v, e = .returned (.tuple #[v, .int .i64 (d.read f).2]) ∧ w'.ownsRow w.heap.size 5 1 v (d.read f).1.length (by8 (d.read f).1) ∧ Below w.heap.size w w') := by
  have HM := Lib.hid (may_any (f := f) h)
  have hwf := h.wf
  have hroom := hwf.room
  have hfull := hwf.full
  by_cases ha : d.ask f = 0
  · have HA := Lib.hid (show d.read f = (d.file f, 0) by unfold PD.read; rw [if_neg (by omega)])
    rw [ha] at HM
    have hd : d.down = false ∧ (f = 0 ∨ f = 1) := by
      unfold PD.ask at ha
      split at ha
      · cases ha
      · rename_i h1
        split at ha
        · cases ha
        · exact ⟨by simpa using h1, by omega⟩
    obtain ⟨A0, c0, A1, c1, Ak, ck, h⟩ := h
    have e1 := cell_of_row w g 1 _ _ _ h.blk
    have e3 := cell_of_row w g 3 _ _ _ h.blk
    replace e1 : w.cell? ⟨g, 1, none⟩ = some (.slice A0 d.f0.length c0) := e1
    replace e3 : w.cell? ⟨g, 3, none⟩ = some (.slice A1 d.f1.length c1) := e3
    rcases hd.2 with rfl | rfl
    · go_enter Try.func38, Try.ntmps38
      go_wp2_with fail
      refine HM.out.mono ?_
      rintro e w1 ⟨rfl, rfl⟩
      go_wp2_with fail
      refine (cloneB_any (by omega) (Nat.le_refl _) h.d0.rd (by8_one _)).mono ?_
      rintro e w2 ⟨v, rfl, ho, hb⟩
      go_wp2
      go_ret2
      rw [HA.out]
      exact ⟨v, rfl, ho, hb⟩
    · go_enter Try.func38, Try.ntmps38
      go_wp2_with fail
      refine HM.out.mono ?_
      rintro e w1 ⟨rfl, rfl⟩
      go_wp2_with fail
      refine (cloneB_any (by omega) (Nat.le_refl _) h.d1.rd (by8_one _)).mono ?_
      rintro e w2 ⟨v, rfl, ho, hb⟩
      go_wp2
      go_ret2
      rw [HA.out]
      exact ⟨v, rfl, ho, hb⟩
  · have HA := Lib.hid (show d.read f = ([], d.ask f) by unfold PD.read; rw [if_pos ha])
    obtain ⟨i1, i2⟩ := int_ne ha
    generalize d.ask f = k at *
    go_enter Try.func38, Try.ntmps38
    go_wp2_with fail
    refine HM.out.mono ?_
    rintro e w1 ⟨rfl, rfl⟩
    go_wp2
    go_ret2
    rw [HA.out]
    exact ⟨_, rfl, World.ownsRow_nil _ _ _ _, Below.refl _ _⟩
end Go.Proofs.Ytabiegbbbljhlaa
