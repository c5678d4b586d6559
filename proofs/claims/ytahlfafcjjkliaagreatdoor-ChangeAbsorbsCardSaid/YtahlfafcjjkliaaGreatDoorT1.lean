/- Walks: the program's path.Right, and the document's Path. -/
import Derived.Test.YtahlfafcjjkliaaGreatDoorT0
import Derived.Lib.ConvBytes
namespace Go.Proofs.YtahlfafcjjkliaaGreatDoor
open Go.RowKit

def cells8 (l : Bs) : List Value := l.map fun b => .int .u8 (b.toNat : Int)
theorem cells8_len (l : Bs) : (cells8 l).length = l.length := List.length_map _
theorem rd8 {w : World} {B n c : Nat} {A : Option Addr} {l : Bs} (h : Rd w B 1 A n c (cells8 l)) {k : Nat} (hk : k < n) :
    ∃ b o u, A = some ⟨b, o, none⟩ ∧ b < B ∧ l[k]? = some u ∧ w.cell? ⟨b, o + k, none⟩ = some (.int .u8 u.toNat) := by
  obtain ⟨b, o, v, e, hb, hv, hc⟩ := h.one hk
  rw [cells8, List.getElem?_map, Option.map_eq_some_iff] at hv
  obtain ⟨u, hu, rfl⟩ := hv
  exact ⟨b, o, u, e, hb, hu, hc⟩
theorem byteOk_eq (c : UInt8) : byteOk c = (decide ((33 : Int) ≤ c.toNat) && decide ((c.toNat : Int) ≤ 126)) := by
  rw [byteOk]; congr 1 <;> exact decide_eq_decide.2 (by omega)

set_option maxHeartbeats 1000000 in
theorem byteBad_any (c : UInt8) (w : World) : Calls Tryz.prog 75 #[.int .u8 c.toNat] w fun e w' => e = .returned (.bool (!byteOk c)) ∧ w' = w := by
  have hb : (c.toNat : Int) < 256 := by have := c.toNat_lt; omega
  have HO := Lib.hid (byteOk_eq c)
  generalize (c.toNat : Int) = z at *
  go_enter Tryz.func75, Tryz.ntmps75
  by_cases h1 : z < 33
  · go_wp2
    go_ret
    refine ⟨ret_bool ?_, rfl⟩
    rw [HO.out, decide_eq_false (by omega)]; rfl
  · by_cases h2 : 126 < z
    · go_wp2
      go_ret
      refine ⟨ret_bool ?_, rfl⟩
      rw [HO.out, decide_eq_false (p := z ≤ 126) (by omega), Bool.and_false]; rfl
    · go_wp2
      go_ret
      refine ⟨ret_bool ?_, rfl⟩
      rw [HO.out, decide_eq_true (by omega), decide_eq_true (by omega)]; rfl

/-- A place, or none: a number from 0 on where one is bad. -/
def PlaceOf (bad : Bool) (n : Nat) (w : World) (e : Ending) (w' : World) : Prop := ∃ k : Int, e = .returned (.int .i64 k) ∧ bad = decide (0 ≤ k) ∧ -1 ≤ k ∧ k ≤ n ∧ Below w.heap.size w w'

set_option maxRecDepth 100000 in
set_option maxHeartbeats 4000000 in
theorem indexB_any {A : Option Addr} {n c BB : Nat} {l : Bs} {w : World} (hn : n ≤ maxLen) (hBB : BB ≤ w.heap.size) (h : Rd w BB 1 A n c (cells8 l)) :
    Calls Tryz.prog 96 #[.slice A n c, .func (.func 75) #[] #[]] w (PlaceOf (!l.all byteOk) n w) := by
  have HL := Lib.hid (show l.length = n by have := h.len; rw [cells8_len] at this; omega)
  unfold maxLen at hn
  go_enter Tryz.func96, Tryz.ntmps96
  go_wp2
  go_loopw [8] (fun i wr => ∃ k : Nat, k ≤ n ∧ i = .int .i64 k ∧ Below w.heap.size w wr ∧ Hid (∀ u ∈ l.take k, byteOk u = true)) (fun i _ => n - (intOf i).toNat)
  case atStart => exact ⟨0, Nat.zero_le _, rfl, Below.refl _ _, by rw [List.take_zero]; intro m hm; cases hm⟩
  case round =>
    obtain ⟨k, hk, rfl, hb, hj⟩ := hrel
    by_cases hlt : k < n
    · obtain ⟨b0, o0, u, rfl, hbb, hx, h0⟩ := rd8 h hlt
      replace h0 := (hb.cell (p := ⟨b0, o0 + k, none⟩) (by show b0 < _; omega)).trans h0
      have HX := Lib.hid hx; clear hx
      go_wp2_with fail
      refine (byteBad_any u _).mono ?_
      rintro e w1 ⟨rfl, rfl⟩
      cases hd : byteOk u
      · have HD := Lib.hid hd
        clear hd
        go_wp2
        go_ret
        refine ⟨k, rfl, ?_, by omega, by omega, hb⟩
        rw [decide_eq_true (by omega), Bool.not_eq_true', List.all_eq_false]
        exact ⟨u, List.mem_of_getElem? HX.out, by rw [HD.out]; simp⟩
      · have HD := Lib.hid hd
        clear hd
        go_wp2
        go_roundw
        case rel =>
          refine ⟨k + 1, by omega, by go_num, hb, ?_⟩
          intro m hm
          rw [List.take_add_one, HX.out] at hm
          rcases List.mem_append.1 hm with hm | hm
          · exact hj m hm
          · simp at hm; subst hm; exact HD.out
        case measure => simp [intOf]; omega
    · have hkn : k = n := by omega
      subst hkn
      go_wp2
      go_ret
      refine ⟨-1, rfl, ?_, by omega, by omega, hb⟩
      rw [decide_eq_false (by omega)]
      have := hj.out
      rw [List.take_of_length_le (by rw [HL.out]; omega)] at this
      rw [List.all_eq_true.2 this]; rfl
end Go.Proofs.YtahlfafcjjkliaaGreatDoor
