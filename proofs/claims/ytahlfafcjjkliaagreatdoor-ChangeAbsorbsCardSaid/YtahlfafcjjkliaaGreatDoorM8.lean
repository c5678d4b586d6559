/- Walk: the document's First. -/
import Derived.Test.YtahlfafcjjkliaaGreatDoorM7
namespace Go.Proofs.YtahlfafcjjkliaaGreatDoor
open Go.RowKit

def selF (i : Nat) (c : List ChV) : List ChV := c.filter (fun x => x.del == decide (i = 0))
def selTo (i : Nat) (c : List ChV) : List ChV := (List.range i).flatMap fun j => selF j c
theorem selTo_two (c : List ChV) : selTo 2 c = firstF c := by
  have h1 : selF 0 c = c.filter (·.del) := List.filter_congr fun x _ => by cases x.del <;> rfl
  have h2 : selF 1 c = c.filter (fun x => !x.del) := List.filter_congr fun x _ => by cases x.del <;> rfl
  show (List.range 2).flatMap _ = _
  rw [show List.range 2 = [0, 1] from rfl]
  simp [h1, h2, firstF]
theorem selTo_succ (i : Nat) (c : List ChV) : selTo (i + 1) c = selTo i c ++ selF i c := by
  rw [selTo, List.range_succ, List.flatMap_append]; simp [selTo]
theorem firstF_mem {c : List ChV} {x : ChV} (h : x ∈ firstF c) : x ∈ c := by
  rcases List.mem_append.1 h with h | h <;> exact (List.mem_filter.1 h).1
theorem selF_step (i : Nat) {c : List ChV} {k : Nat} {x : ChV} (hx : c[k]? = some x) : selF i (c.take (k + 1)) = selF i (c.take k) ++ if x.del = decide (i = 0) then [x] else [] := by
  rw [List.take_add_one, hx, selF, List.filter_append]
  by_cases e : x.del = decide (i = 0)
  · rw [if_pos e]; simp [e, selF]
  · rw [if_neg e]; simp [e, selF]

set_option maxRecDepth 100000 in
set_option maxHeartbeats 8000000 in
theorem first_any {A : Option Addr} {n c : Nat} {l : List ChV} {w : World} (hn : n ≤ 1000000) (h : RdC w w.heap.size A n c l) :
    Calls Tryz.prog 51 #[.slice A n c] w (ChgsIs (· = firstF l) w) := by
  have HL := Lib.hid h.len
  have HF := Lib.hid h.fits
  go_enter Tryz.func51, Tryz.ntmps51
  go_wp2
  go_loopw [3, 4] (fun lv i wr => ∃ (k m : Nat), k ≤ 2 ∧ i = .int .i64 k ∧ Below w.heap.size w wr ∧ m ≤ k * n ∧ Hid ((selTo k l).length = m) ∧ wr.ownsRow w.heap.size 29 4 lv m ((selTo k l).flatMap ChV.cells)) (fun _ i _ => 2 - (intOf i).toNat)
  case atStart => exact ⟨0, 0, by omega, rfl, Below.refl _ _, by omega, rfl, World.ownsRow_nil _ _ _ _⟩
  case round =>
    obtain ⟨i, m, hi, rfl, hb, hmi, hm, ho⟩ := hrel
    by_cases hi2 : i < 2
    · go_wp2
      rw [show decide ((i : Int) < 2) = true from decide_eq_true (by omega)]
      go_loopw [3, 5] (fun lv j wr => ∃ (k m : Nat), k ≤ n ∧ j = .int .i64 k ∧ Below w.heap.size w wr ∧ m ≤ i * n + k ∧ Hid ((selTo i l ++ selF i (l.take k)).length = m) ∧ wr.ownsRow w.heap.size 29 4 lv m ((selTo i l ++ selF i (l.take k)).flatMap ChV.cells)) (fun _ j _ => n - (intOf j).toNat)
      case atStart => exact ⟨0, m, by omega, rfl, hb, by omega, by rw [List.take_zero]; simpa [selF] using hm, by rw [List.take_zero]; simpa [selF] using ho⟩
      case round =>
        clear hm ho hb hmi
        obtain ⟨k, m, hk, rfl, hb, hmk, hm, ho⟩ := hrel
        have hin : i * n ≤ 1000000 := by
          obtain rfl | rfl : i = 0 ∨ i = 1 := by omega
          · omega
          · omega
        by_cases hlt : k < n
        · obtain ⟨b0, o0, x, rfl, hbb, hx, hxm, h0, h1, h2, h3⟩ := h.get hlt
          replace h0 := (hb.cell (p := ⟨b0, o0 + k * 4, none⟩) (by show b0 < _; omega)).trans h0
          replace h1 := (hb.cell (p := ⟨b0, o0 + k * 4 + 1, none⟩) (by show b0 < _; omega)).trans h1
          replace h2 := (hb.cell (p := ⟨b0, o0 + k * 4 + 2, none⟩) (by show b0 < _; omega)).trans h2
          replace h3 := (hb.cell (p := ⟨b0, o0 + k * 4 + 3, none⟩) (by show b0 < _; omega)).trans h3
          have HN := Lib.hid (selF_step i hx)
          have hi0 : decide ((i : Int) = 0) = decide (i = 0) := by
            obtain rfl | rfl : i = 0 ∨ i = 1 := by omega
            · rfl
            · rfl
          have HI0 := Lib.hid hi0
          clear hx hi0
          by_cases hq : x.del = decide (i = 0)
          · have HQ := Lib.hid hq
            have HW := Lib.hid (show selTo i l ++ selF i (l.take (k + 1)) = (selTo i l ++ selF i (l.take k)) ++ [x] by rw [HN.out, if_pos hq, List.append_assoc])
            have hb1 := hb.alloc hb.size (.cells #[.string x.path, .bool x.del, .bool x.exec, .string x.text] 29)
            have ho1 := ho.alloc (.cells #[.string x.path, .bool x.del, .bool x.exec, .string x.text] 29)
            have hq2 : (x.del == ((i : Int) == 0)) = true := by rw [show ((i : Int) == 0) = decide ((i : Int) = 0) from rfl, HI0.out, hq]; simp
            clear hq
            go_wp2_with (at_builtin; refine wpl_append rfl (.tmp 24) (.tmp 29) 23 rfl E_changes rfl rfl ho1 (rd_litC _ x) (one_changes _) (by unfold maxLen; omega) (by omega) hb1.size ?_; intro v7 w7 ho7 hg7 hv7)
            go_roundw
            case rel =>
              refine ⟨k + 1, m + 1, by omega, by go_num, hb1.grown hg7 hb1.size (fun g hg => (ho1.lt g hg).1), by omega, ?_, ?_⟩
              · show (selTo i l ++ selF i (l.take (k + 1))).length = m + 1
                rw [HW.out, List.length_append, hm.out]; rfl
              · rw [HW.out, List.flatMap_append]; exact ho7
            case measure => simp [intOf]; omega
          · have HW := Lib.hid (show selTo i l ++ selF i (l.take (k + 1)) = selTo i l ++ selF i (l.take k) by rw [HN.out, if_neg hq, List.append_nil])
            have hq2 : (x.del == ((i : Int) == 0)) = false := by rw [show ((i : Int) == 0) = decide ((i : Int) = 0) from rfl, HI0.out]; simpa using hq
            clear hq
            go_wp2
            go_roundw
            case rel => exact ⟨k + 1, m, by omega, by go_num, hb, by omega, by rw [HW.out]; exact hm, by rw [HW.out]; exact ho⟩
            case measure => simp [intOf]; omega
        · have hkn : k = n := by omega
          subst hkn
          rw [List.take_of_length_le (by rw [HL.out]; omega), ← selTo_succ] at hm ho
          go_wp2
          go_roundw
          case rel => exact ⟨i + 1, m, by omega, by go_num, hb, by rw [Nat.succ_mul]; omega, hm, ho⟩
          case measure => simp [intOf]; omega
    · obtain rfl : i = 2 := by omega
      rw [selTo_two] at hm ho
      go_wp2
      go_ret
      obtain ⟨A7, c7, rfl, hc7⟩ := ownsRow_cap ho
      have hr := Rd.of_own ho hc7
      rw [← hm.out] at hr ⊢
      exact ⟨A7, c7, _, rfl, rfl, ⟨hr, rfl, fun x hx => HF.out x (firstF_mem hx)⟩, hb⟩
end Go.Proofs.YtahlfafcjjkliaaGreatDoor
