/- Walks: the document's Parts and Path. -/
import Derived.Test.YtahlfafcjjkliaaGreatDoorT2
namespace Go.Proofs.YtahlfafcjjkliaaGreatDoor
open Go.RowKit

theorem E_strs : Elem Tryz.prog 24 9 1 16 := elem_of (by kernel_rfl)
theorem rd_litS (w : World) (x : ByteArray) : Rd (w.alloc (.cells #[.string x] 9)) (w.heap.size + 1) 1 (some ⟨w.heap.size, 0, none⟩) 1 1 ([x].map .string) :=
  ⟨rfl, Nat.le_refl _, fun _ => ⟨_, 0, rfl, by omega, fun j u hu => by
    rw [Nat.zero_add, World.cell?, heap_alloc_new]
    simpa using hu⟩⟩

/-- Where the pieces have come to. -/
def Cut (s : Bs) (ps : List Bs) (f i : Nat) : Prop := parts s = ps ++ parts (s.drop f) ∧ f ≤ i ∧ i ≤ s.length ∧ 47 ∉ (s.drop f).take (i - f)
theorem Cut.start (s : Bs) : Cut s [] 0 0 := ⟨rfl, Nat.le_refl _, Nat.zero_le _, by simp⟩
theorem Cut.slash {s : Bs} {ps : List Bs} {f i : Nat} (h : Cut s ps f i) (hi : s[i]? = some 47) : Cut s (ps ++ [(s.drop f).take (i - f)]) (i + 1) (i + 1) := by
  obtain ⟨h1, h2, h3, h4⟩ := h
  have hlt := (List.getElem?_eq_some_iff.1 hi).1
  refine ⟨?_, Nat.le_refl _, by omega, by simp⟩
  have e : s.drop f = (s.drop f).take (i - f) ++ 47 :: s.drop (i + 1) := by
    have h5 : (s.drop f).drop (i - f) = 47 :: s.drop (i + 1) := by
      rw [List.drop_drop, show f + (i - f) = i by omega, List.drop_eq_getElem_cons hlt, (List.getElem?_eq_some_iff.1 hi).2]
    rw [← h5, List.take_append_drop]
  rw [h1, List.append_assoc]
  congr 1
  conv => lhs; rw [e]
  rw [parts_cut _ h4]; rfl
theorem Cut.no {s : Bs} {ps : List Bs} {f i : Nat} {c : UInt8} (h : Cut s ps f i) (hi : s[i]? = some c) (hc : c ≠ 47) : Cut s ps f (i + 1) := by
  obtain ⟨h1, h2, h3, h4⟩ := h
  have hlt := (List.getElem?_eq_some_iff.1 hi).1
  refine ⟨h1, by omega, by omega, ?_⟩
  rw [show i + 1 - f = (i - f) + 1 by omega, List.take_add_one, List.getElem?_drop, show f + (i - f) = i by omega, hi]
  intro hm
  rcases List.mem_append.1 hm with hm | hm
  · exact h4 hm
  · simp at hm; exact hc hm.symm
theorem Cut.last {s : Bs} {ps : List Bs} {f : Nat} (h : Cut s ps f s.length) : parts s = ps ++ [s.drop f] := by
  obtain ⟨h1, h2, h3, h4⟩ := h
  rw [List.take_of_length_le (by rw [List.length_drop]; omega)] at h4
  rw [h1, parts_none h4]
theorem ext_list (s : ByteArray) (f i : Nat) : (s.extract f i).data.toList = (s.data.toList.drop f).take (i - f) := by
  simp [ByteArray.data_extract, List.take_drop]
  try (rw [List.drop_take])
  try (congr 1; omega)

/-- A row of strings. -/
def StrsIs (P : List Bs → Prop) (w : World) (e : Ending) (w' : World) : Prop :=
  ∃ (A : Option Addr) (c : Nat) (ps : List ByteArray), e = .returned (.slice A ps.length c) ∧ P (ps.map (·.data.toList)) ∧ Rd w' w'.heap.size 1 A ps.length c (ps.map .string) ∧ Below w.heap.size w w'

set_option maxRecDepth 100000 in
set_option maxHeartbeats 4000000 in
theorem rparts_any {s : ByteArray} {w : World} (hs : s.size ≤ 1048576) : Calls Tryz.prog 83 #[.string s] w (StrsIs (· = parts s.data.toList) w) := by
  have hl : s.data.toList.length = s.size := rfl
  go_enter Tryz.func83, Tryz.ntmps83
  go_wp2
  go_loopw [3, 4, 5] (fun lv fv iv wr => ∃ (f i : Nat) (ps : List ByteArray), i ≤ s.size ∧ f ≤ i ∧ fv = .int .i64 f ∧ iv = .int .i64 i ∧ Hid (Cut s.data.toList (ps.map (·.data.toList)) f i) ∧ ps.length ≤ i ∧
      Below w.heap.size w wr ∧ wr.ownsRow w.heap.size 9 1 lv ps.length (ps.map .string)) (fun _ _ iv _ => s.size - (intOf iv).toNat)
  case atStart => exact ⟨0, 0, [], Nat.zero_le _, Nat.le_refl _, rfl, rfl, Cut.start _, Nat.le_refl _, Below.refl _ _, World.ownsRow_nil _ _ _ _⟩
  case round =>
    obtain ⟨f, i, ps, hi, hfi, rfl, rfl, hc, hpl, hb, ho⟩ := hrel
    by_cases hlt : i < s.size
    · have hx : s.data.toList[i]? = some s[i] := by
        have := List.getElem?_eq_getElem (l := s.data.toList) (i := i) (by omega)
        rw [this]; rfl
      by_cases h47 : s[i] = 47
      · have h47i : ((s[i].toNat : Int) == 47) = true := by rw [h47]; rfl
        rw [h47] at hx
        have HC := Lib.hid (hc.out.slash hx)
        have hb1 := hb.alloc hb.size (.cells #[.string (s.extract f i)] 9)
        have ho1 := ho.alloc (.cells #[.string (s.extract f i)] 9)
        clear hx h47
        go_wp2_with (at_builtin; refine wpl_append rfl (.tmp 16) (.tmp 21) 24 rfl E_strs rfl rfl ho1 (rd_litS wr (s.extract f i)) (oneCell_str _) (by unfold maxLen; omega) (by omega) hb1.size ?_; intro v7 w7 ho7 hg7 hv7)
        go_roundw
        case rel =>
          refine ⟨i + 1, i + 1, ps ++ [s.extract f i], by omega, by omega, by go_num, by go_num, ?_, by simp; omega, hb1.grown hg7 hb1.size (fun g hg => (ho1.lt g hg).1), ?_⟩
          · rw [List.map_append, List.map_cons, List.map_nil, ext_list]; exact HC.out
          · rw [List.length_append, List.map_append]; exact ho7
        case measure => simp [intOf]; omega
      · have h47i : ((s[i].toNat : Int) == 47) = false := by
          refine beq_eq_false_iff_ne.2 fun e => h47 (UInt8.toNat.inj ?_)
          show s[i].toNat = 47
          omega
        have HC := Lib.hid (hc.out.no hx h47)
        clear hx h47
        go_wp2
        go_roundw
        case rel => exact ⟨f, i + 1, ps, by omega, by omega, rfl, by go_num, HC.out, by omega, hb, ho⟩
        case measure => simp [intOf]; omega
    · obtain rfl : i = s.size := by omega
      have hc' := hc.out
      rw [← hl] at hc'
      have HC := Lib.hid hc'.last
      have hb1 := hb.alloc hb.size (.cells #[.string (s.extract f s.size)] 9)
      have ho1 := ho.alloc (.cells #[.string (s.extract f s.size)] 9)
      clear hc'
      go_wp2_with (at_builtin; refine wpl_append rfl (.tmp 25) (.tmp 29) 24 rfl E_strs rfl rfl ho1 (rd_litS wr (s.extract f s.size)) (oneCell_str _) (by unfold maxLen; omega) (by omega) hb1.size ?_; intro v7 w7 ho7 hg7 hv7)
      have hb7 := hb1.grown hg7 hb1.size (fun g hg => (ho1.lt g hg).1)
      obtain ⟨A7, c7, rfl, hc7⟩ := ownsRow_cap ho7
      go_ret
      refine ⟨A7, c7, ps ++ [s.extract f s.size], by rw [List.length_append]; rfl, ?_, ?_, hb7⟩
      · rw [HC.out, List.map_append, List.map_cons, List.map_nil, ext_list, List.take_of_length_le (by rw [List.length_drop]; omega)]
      · have := Rd.of_own ho7 hc7
        rw [← List.map_append, show ps.length + 1 = (ps ++ [s.extract f s.size]).length by simp] at this
        exact this
end Go.Proofs.YtahlfafcjjkliaaGreatDoor
