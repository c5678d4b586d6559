/- Walks: the program's path.Right. -/
import Derived.Test.YtahlfafcjjkliaaGreatDoorT1
import Derived.Test.YtahlfafcjjkliaaGreatDoorSplit
namespace Go.Proofs.YtahlfafcjjkliaaGreatDoor
open Go.RowKit

/-- A variable of the library's holds a number, whatever it be. -/
def Lm (w : World) : Prop := ∃ m, w.cell? ⟨0, 0, none⟩ = some (.int .i64 m)
theorem Lm.below {w w' : World} {B : Nat} (h : Lm w) (hb : Below B w w') (hB : 0 < B) : Lm w' := by
  obtain ⟨m, hm⟩ := h
  exact ⟨m, (hb.cell (p := ⟨0, 0, none⟩) hB).trans hm⟩
theorem Lm.lt {w : World} (h : Lm w) : 0 < w.heap.size := by
  obtain ⟨m, hm⟩ := h
  exact World.block_lt_of_cell? _ _ hm
theorem Lm.to {w w' : World} (h : Lm w) (hb : Below w.heap.size w w') : Lm w' := h.below hb h.lt
theorem Lm.shaped {w : World} (h : w.ShapedOpen Tryz.prog) : Lm w := Tryz.laysM146.s1_3 w h

theorem ba_list {p : ByteArray} {l : Bs} : p = ⟨l.toArray⟩ ↔ p.data.toList = l := by
  constructor
  · intro h; rw [h]
  · intro h
    cases p with
    | mk d => simp at h; rw [← h]
theorem ba_ext {x y : ByteArray} (h : x.data.toList = y.data.toList) : x = y := ba_list.2 h
theorem below_bytes (w : World) (e : TypeId) (s : ByteArray) : Below w.heap.size w (Lib.bytesWorld w e s) :=
  ⟨by simp only [Lib.bytesWorld, World.freeze]; rfl, by simp only [Lib.bytesWorld, World.freeze]; rfl, by simp only [Lib.bytesWorld, World.freeze]; rfl, by rw [Lib.bytesWorld_size]; omega, fun k hk => Lib.bytesWorld_at_old w e s k hk⟩
theorem rd_bytes (w : World) (e : TypeId) (s : ByteArray) : Rd (Lib.bytesWorld w e s) (w.heap.size + 1) 1 (some ⟨w.heap.size, 0, none⟩) s.size (grownCap w s.size 0 e) (cells8 s.data.toList) := by
  have hl : s.data.toList.length = s.size := rfl
  refine ⟨by rw [cells8_len, hl]; omega, ?_, fun _ => ⟨_, 0, rfl, by omega, fun j u hu => ?_⟩⟩
  · exact grownCap_ge _ _ _ _
  · rw [cells8, List.getElem?_map, Option.map_eq_some_iff] at hu
    obtain ⟨x, hx, rfl⟩ := hu
    have hj : j < s.size := by rw [← hl]; exact (List.getElem?_eq_some_iff.1 hx).1
    have := Lib.bytesWorld_cell w e s j hj
    rw [Nat.zero_add, this, List.getD, hx]; rfl

def partOkB (p : ByteArray) : Bool := partOk p.data.toList
theorem partOkB_no {p : ByteArray} (h : p = ⟨#[]⟩ ∨ p = ⟨#[46]⟩ ∨ p = ⟨#[46, 46]⟩) : partOkB p = false := by
  rcases h with rfl | rfl | rfl <;> rfl
theorem partOkB_yes {p : ByteArray} (h0 : p ≠ ⟨#[]⟩) (h1 : p ≠ ⟨#[46]⟩) (h2 : p ≠ ⟨#[46, 46]⟩) : partOkB p = true := by
  have e0 : ¬ p.data.toList = [] := fun e => h0 (ba_list.2 e)
  have e1 : ¬ p.data.toList = [46] := fun e => h1 (ba_list.2 e)
  have e2 : ¬ p.data.toList = [46, 46] := fun e => h2 (ba_list.2 e)
  simp [partOkB, partOk, e0, e1, e2]

set_option maxHeartbeats 1000000 in
theorem partBad_any (p : ByteArray) (w : World) : Calls Tryz.prog 78 #[.string p] w fun e w' => e = .returned (.bool (!partOkB p)) ∧ w' = w := by
  by_cases h0 : p = ⟨#[]⟩
  · have HO := Lib.hid (partOkB_no (.inl h0))
    subst h0
    go_enter Tryz.func78, Tryz.ntmps78
    go_wp2
    go_ret
    exact ⟨ret_bool (by rw [HO.out]; rfl), rfl⟩
  by_cases h1 : p = ⟨#[46]⟩
  · have HO := Lib.hid (partOkB_no (.inr (.inl h1)))
    subst h1
    go_enter Tryz.func78, Tryz.ntmps78
    go_wp2
    go_ret
    exact ⟨ret_bool (by rw [HO.out]; rfl), rfl⟩
  by_cases h2 : p = ⟨#[46, 46]⟩
  · have HO := Lib.hid (partOkB_no (.inr (.inr h2)))
    subst h2
    go_enter Tryz.func78, Tryz.ntmps78
    go_wp2
    go_ret
    exact ⟨ret_bool (by rw [HO.out]; rfl), rfl⟩
  have HO := Lib.hid (partOkB_yes h0 h1 h2)
  have n0 : ¬ p.toList = [] := fun e => h0 (ba_ext (by rw [← Lib.toList_data]; exact e))
  have n1 : ¬ p.toList = [46] := fun e => h1 (ba_ext (by rw [← Lib.toList_data]; exact e))
  have n2 : ¬ p.toList = [46, 46] := fun e => h2 (ba_ext (by rw [← Lib.toList_data]; exact e))
  clear h0 h1 h2
  go_enter Tryz.func78, Tryz.ntmps78
  go_wp2
  go_ret
  exact ⟨ret_bool (by rw [HO.out]; simp [n0, n1, n2]), rfl⟩

set_option maxRecDepth 100000 in
set_option maxHeartbeats 4000000 in
theorem indexS_any {A : Option Addr} {n c BB : Nat} {l : List ByteArray} {w : World} (hn : n ≤ maxLen) (hBB : BB ≤ w.heap.size) (h : Rd w BB 1 A n c (l.map .string)) :
    Calls Tryz.prog 97 #[.slice A n c, .func (.func 78) #[] #[]] w (PlaceOf (!l.all partOkB) n w) := by
  have HL := Lib.hid (show l.length = n by have := h.len; rw [List.length_map] at this; omega)
  unfold maxLen at hn
  go_enter Tryz.func97, Tryz.ntmps97
  go_wp2
  go_loopw [8] (fun i wr => ∃ k : Nat, k ≤ n ∧ i = .int .i64 k ∧ Below w.heap.size w wr ∧ Hid (∀ u ∈ l.take k, partOkB u = true)) (fun i _ => n - (intOf i).toNat)
  case atStart => exact ⟨0, Nat.zero_le _, rfl, Below.refl _ _, by rw [List.take_zero]; intro m hm; cases hm⟩
  case round =>
    obtain ⟨k, hk, rfl, hb, hj⟩ := hrel
    by_cases hlt : k < n
    · obtain ⟨b0, o0, u, rfl, hbb, hx, h0⟩ := h.str hlt
      replace h0 := (hb.cell (p := ⟨b0, o0 + k, none⟩) (by show b0 < _; omega)).trans h0
      have HX := Lib.hid hx; clear hx
      go_wp2_with fail
      refine (partBad_any u _).mono ?_
      rintro e w1 ⟨rfl, rfl⟩
      cases hd : partOkB u
      · have HD := Lib.hid hd
        clear hd
        go_wp2
        go_ret
        refine ⟨k, rfl, ?_, by omega, by omega, hb⟩
        rw [decide_eq_true (by omega), Bool.not_eq_true', List.all_eq_false]
        exact ⟨u, List.mem_of_getElem? HX.out, by rw [HD.out]; simp⟩
      · have HD := Lib.hid hd
        clear hd
        go_wp2
        go_roundw
        case rel =>
          refine ⟨k + 1, by omega, by go_num, hb, ?_⟩
          intro m hm
          rw [List.take_add_one, HX.out] at hm
          rcases List.mem_append.1 hm with hm | hm
          · exact hj m hm
          · simp at hm; subst hm; exact HD.out
        case measure => simp [intOf]; omega
    · have hkn : k = n := by omega
      subst hkn
      go_wp2
      go_ret
      refine ⟨-1, rfl, ?_, by omega, by omega, hb⟩
      rw [decide_eq_false (by omega)]
      have := hj.out
      rw [List.take_of_length_le (by rw [HL.out]; omega)] at this
      rw [List.all_eq_true.2 this]; rfl

theorem ge_bool {bad : Bool} {k : Int} (h : bad = decide (0 ≤ k)) : Ending.returned (.bool (decide (0 ≤ k))) = .returned (.bool bad) := by rw [h]
set_option maxHeartbeats 1000000 in
theorem hasB_any {A : Option Addr} {n c BB : Nat} {l : Bs} {w : World} (hn : n ≤ maxLen) (hBB : BB ≤ w.heap.size) (h : Rd w BB 1 A n c (cells8 l)) :
    Calls Tryz.prog 74 #[.slice A n c, .func (.func 75) #[] #[]] w (BoolBelow (!l.all byteOk) w) := by
  go_enter Tryz.func74, Tryz.ntmps74
  go_wp2_with fail
  refine (indexB_any hn hBB h).mono ?_
  rintro e w1 ⟨k, rfl, hk, h1, h2, hb⟩
  unfold maxLen at hn
  have HK := Lib.hid hk
  clear hk
  by_cases h0 : (0 : Int) ≤ k
  · go_wp2
    go_ret
    exact ⟨ret_bool (by simp [HK.out, h0]), hb⟩
  · go_wp2
    go_ret
    exact ⟨ret_bool (by simp [HK.out, h0]), hb⟩
set_option maxHeartbeats 1000000 in
theorem hasS_any {A : Option Addr} {n c BB : Nat} {l : List ByteArray} {w : World} (hn : n ≤ maxLen) (hBB : BB ≤ w.heap.size) (h : Rd w BB 1 A n c (l.map .string)) :
    Calls Tryz.prog 76 #[.slice A n c, .func (.func 78) #[] #[]] w (BoolBelow (!l.all partOkB) w) := by
  go_enter Tryz.func76, Tryz.ntmps76
  go_wp2_with fail
  refine (indexS_any hn hBB h).mono ?_
  rintro e w1 ⟨k, rfl, hk, h1, h2, hb⟩
  unfold maxLen at hn
  have HK := Lib.hid hk
  clear hk
  by_cases h0 : (0 : Int) ≤ k
  · go_wp2
    go_ret
    exact ⟨ret_bool (by simp [HK.out, h0]), hb⟩
  · go_wp2
    go_ret
    exact ⟨ret_bool (by simp [HK.out, h0]), hb⟩

/-- The pieces of a path, in a row of their own. -/
def PartsIs (s : ByteArray) (w : World) (e : Ending) (w' : World) : Prop :=
  ∃ ps : List ByteArray, e = .returned (.slice (some ⟨w.heap.size, 0, none⟩) ps.length ps.length) ∧ ps.map (·.data.toList) = parts s.data.toList ∧
    Rd w' (w.heap.size + 1) 1 (some ⟨w.heap.size, 0, none⟩) ps.length ps.length (ps.map .string) ∧ Below w.heap.size w w' ∧ w.heap.size + 1 ≤ w'.heap.size ∧ ps.length ≤ s.size + 1
set_option maxHeartbeats 1000000 in
theorem parts_any {s : ByteArray} {w : World} (hs : s.size < 4294967281) (hm : Lm w) : Calls Tryz.prog 77 #[.string s] w (PartsIs s w) := by
  obtain ⟨m, hm⟩ := hm
  have hlen := Lib.splitB_all ⟨#[47]⟩ (by decide) 0 _ s rfl
  have hp := split_parts s
  have hcl := Lib.countB_le ⟨#[47]⟩ (by decide) s.size s (Nat.le_refl _)
  go_enter Tryz.func77, Tryz.ntmps77
  go_wp2_with fail
  refine (Tryz.strings_Split s ⟨#[47]⟩ m w hs hm (by decide)).mono ?_
  rintro e w1 ⟨rfl, rfl⟩
  generalize Lib.splitB ⟨#[47]⟩ 0 (Lib.countB s ⟨#[47]⟩) s = ps at *
  rw [← hlen]
  go_wp2
  go_ret
  refine ⟨ps, by rw [hlen]; rfl, hp, ⟨by simp, Nat.le_refl _, fun _ => ⟨_, 0, rfl, by omega, fun j u hu => ?_⟩⟩, (Below.refl _ _).alloc (Nat.le_refl _) _, by simp, by omega⟩
  rw [Nat.zero_add, World.cell?, heap_alloc_new]
  simpa using hu

theorem all_parts {ps : List ByteArray} {s : ByteArray} (h : ps.map (·.data.toList) = parts s.data.toList) : ps.all partOkB = (parts s.data.toList).all partOk := by
  rw [← h, List.all_map]; rfl

set_option maxRecDepth 100000 in
set_option maxHeartbeats 4000000 in
theorem pathRight_any {s : ByteArray} {w : World} (hm : Lm w) : Calls Tryz.prog 56 #[.string s] w (BoolBelow (pathOk s.data.toList) w) := by
  have hl : s.data.toList.length = s.size := rfl
  by_cases h0 : s.size = 0
  · have HP := Lib.hid (show pathOk s.data.toList = false by rw [pathOk, hl, decide_eq_false (by omega)]; rfl)
    have hz : (s.size : Int) = 0 := by omega
    go_enter Tryz.func56, Tryz.ntmps56
    go_wp2
    go_ret
    exact ⟨ret_bool HP.out.symm, Below.refl _ _⟩
  obtain ⟨hz, _⟩ := int_ne (u := (s.size : Int)) (v := 0) (by omega)
  by_cases h1 : 100 < s.size
  · have HP := Lib.hid (show pathOk s.data.toList = false by rw [pathOk, hl, decide_eq_false (p := s.size ≤ 100) (by omega)]; simp)
    have hz2 : (100 : Int) < s.size := by omega
    go_enter Tryz.func56, Tryz.ntmps56
    go_wp2
    go_ret
    exact ⟨ret_bool HP.out.symm, Below.refl _ _⟩
  have hz2 : ¬ (100 : Int) < s.size := by omega
  have hcv := Lib.run_convert_string_bytes w 9 96 5 s Tryz.underlying9 Tryz.underlying96 Tryz.underlying5
  have HB := below_bytes w 5 s
  have HR := rd_bytes w 5 s
  have HZ := Lib.bytesWorld_size w 5 s
  go_enter Tryz.func56, Tryz.ntmps56
  go_wp2_with fail
  refine (hasB_any (by simp only [maxLen]; omega) (by omega) HR).mono ?_
  rintro e w1 ⟨rfl, hb1⟩
  have hB1 : Below w.heap.size w w1 := HB.trans (hb1.mono (by omega))
  clear hcv HB HR hb1 HZ
  have hm1 := hm.to hB1
  cases hd : s.data.toList.all byteOk
  · have HP := Lib.hid (show pathOk s.data.toList = false by rw [pathOk, hd]; simp)
    clear hd
    go_wp2
    go_ret
    exact ⟨ret_bool HP.out.symm, hB1⟩
  · have HP := Lib.hid (show pathOk s.data.toList = (parts s.data.toList).all partOk by rw [pathOk, hd, hl, decide_eq_true (by omega), decide_eq_true (by omega)]; rfl)
    clear hd
    go_wp2_with fail
    refine (parts_any (by omega) hm1).mono ?_
    rintro e w2 ⟨ps, rfl, hps, hr2, hb2, hs2, hle⟩
    have HPS := Lib.hid hps
    clear hps
    go_wp2_with fail
    refine (hasS_any (by simp only [maxLen]; omega) hs2 hr2).mono ?_
    rintro e w3 ⟨rfl, hb3⟩
    have HB3 := Lib.hid (hB1.trans ((hb2.mono hB1.size).trans (hb3.mono (by have := hB1.size; have := hb2.size; omega))))
    clear hb3 hb2 hr2
    go_wp2
    go_ret
    exact ⟨ret_bool (by rw [HP.out, ← all_parts HPS.out]), HB3.out⟩
end Go.Proofs.YtahlfafcjjkliaaGreatDoor
