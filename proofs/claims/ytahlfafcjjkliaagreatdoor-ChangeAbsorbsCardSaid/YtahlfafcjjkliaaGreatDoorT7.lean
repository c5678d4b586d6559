/- Walks: the document's Path, Within, Clash. -/
import Derived.Test.YtahlfafcjjkliaaGreatDoorT3
import Derived.Test.YtahlfafcjjkliaaGreatDoorT6
namespace Go.Proofs.YtahlfafcjjkliaaGreatDoor
open Go.RowKit

theorem all_next {s : ByteArray} {k : Nat} {p : UInt8 → Bool} (h : (s.data.toList.take k).all p = true) (hlt : k < s.size) (hp : p s[k] = true) : (s.data.toList.take (k + 1)).all p = true := by
  have hx : s.data.toList[k]? = some s[k] := by
    have := List.getElem?_eq_getElem (l := s.data.toList) (i := k) hlt
    rw [this]; rfl
  rw [List.take_add_one, hx, List.all_append, h]; simp [hp]
theorem all_bad {s : ByteArray} {k : Nat} {p : UInt8 → Bool} (hlt : k < s.size) (hp : p s[k] = false) : s.data.toList.all p = false := by
  have hx : s.data.toList[k]? = some s[k] := by
    have := List.getElem?_eq_getElem (l := s.data.toList) (i := k) hlt
    rw [this]; rfl
  rw [List.all_eq_false]
  exact ⟨_, List.mem_of_getElem? hx, by rw [hp]; simp⟩
theorem pathOk_bytes {s : ByteArray} (h : s.data.toList.all byteOk = false) : pathOk s.data.toList = false := by rw [pathOk, h]; simp
theorem pathOk_part {s : ByteArray} {ps : List ByteArray} (hp : ps.map (·.data.toList) = parts s.data.toList) {u : ByteArray} (hu : u ∈ ps) (h : partOkB u = false) : pathOk s.data.toList = false := by
  have : (parts s.data.toList).all partOk = false := by rw [← all_parts hp, List.all_eq_false]; exact ⟨u, hu, by rw [h]; simp⟩
  rw [pathOk, this]; simp
theorem pathOk_all {s : ByteArray} {ps : List ByteArray} (h0 : ¬ s.size = 0) (h1 : ¬ 100 < s.size) (hb : (s.data.toList.take s.size).all byteOk = true) (hp : ps.map (·.data.toList) = parts s.data.toList) (h : ∀ u ∈ ps, partOkB u = true) : pathOk s.data.toList = true := by
  have hl : s.data.toList.length = s.size := rfl
  rw [List.take_of_length_le (by omega)] at hb
  rw [pathOk, hl, decide_eq_true (by omega), decide_eq_true (by omega), hb, ← all_parts hp, List.all_eq_true.2 h]; rfl

theorem parts_len : ∀ (s : Bs), (parts s).length ≤ s.length + 1
  | [] => by simp [parts]
  | c :: cs => by
    have ih := parts_len cs
    unfold parts
    split
    · simp; omega
    · split
      · rename_i e; rw [e] at ih; simp at ih ⊢; omega
      · simp
set_option maxRecDepth 100000 in
set_option maxHeartbeats 4000000 in
theorem rpath_any {s : ByteArray} {w : World} : Calls Tryz.prog 65 #[.string s] w (BoolBelow (pathOk s.data.toList) w) := by
  have hl : s.data.toList.length = s.size := rfl
  by_cases h0 : s.size = 0
  · have HP := Lib.hid (show pathOk s.data.toList = false by rw [pathOk, hl, decide_eq_false (by omega)]; rfl)
    have hz : (s.size : Int) < 1 := by omega
    go_enter Tryz.func65, Tryz.ntmps65
    go_wp2
    go_ret
    exact ⟨ret_bool HP.out.symm, Below.refl _ _⟩
  have hz1 : ¬ (s.size : Int) < 1 := by omega
  by_cases h1 : 100 < s.size
  · have HP := Lib.hid (show pathOk s.data.toList = false by rw [pathOk, hl, decide_eq_false (p := s.size ≤ 100) (by omega)]; simp)
    have hz2 : (100 : Int) < s.size := by omega
    go_enter Tryz.func65, Tryz.ntmps65
    go_wp2
    go_ret
    exact ⟨ret_bool HP.out.symm, Below.refl _ _⟩
  have hz2 : ¬ (100 : Int) < s.size := by omega
  go_enter Tryz.func65, Tryz.ntmps65
  go_wp2
  go_loopw [3] (fun i wr => ∃ k : Nat, k ≤ s.size ∧ i = .int .i64 k ∧ Below w.heap.size w wr ∧ Hid ((s.data.toList.take k).all byteOk = true)) (fun i _ => s.size - (intOf i).toNat)
  case atStart => exact ⟨0, Nat.zero_le _, rfl, Below.refl _ _, rfl⟩
  case round =>
    obtain ⟨k, hk, rfl, hb, hF⟩ := hrel
    by_cases hlt : k < s.size
    · by_cases c1 : (s[k].toNat : Int) < 33
      · have HO := Lib.hid (pathOk_bytes (all_bad (p := byteOk) hlt (by rw [byteOk_eq, decide_eq_false (by omega)]; rfl)))
        go_wp2
        go_ret
        exact ⟨ret_bool HO.out.symm, hb⟩
      · by_cases c2 : 126 < (s[k].toNat : Int)
        · have HO := Lib.hid (pathOk_bytes (all_bad (p := byteOk) hlt (by rw [byteOk_eq, decide_eq_false (p := (s[k].toNat : Int) ≤ 126) (by omega), Bool.and_false])))
          go_wp2
          go_ret
          exact ⟨ret_bool HO.out.symm, hb⟩
        · have HO := Lib.hid (all_next (p := byteOk) hF.out hlt (by rw [byteOk_eq, decide_eq_true (by omega), decide_eq_true (by omega)]; rfl))
          go_wp2
          go_roundw
          case rel => exact ⟨k + 1, by omega, by go_num, hb, HO.out⟩
          case measure => simp [intOf]; omega
    · obtain rfl : k = s.size := by omega
      go_wp2_with fail
      refine (rparts_any (by omega)).mono ?_
      rintro e w1 ⟨A, c, ps, rfl, hps, hr, hb1⟩
      replace hb1 := hb.trans (hb1.mono hb.size)
      have HPS := Lib.hid hps
      have hpl : ps.length ≤ s.size + 1 := by have := parts_len s.data.toList; rw [← hps, List.length_map] at this; exact this
      clear hps
      go_wp2
      go_loopw [5] (fun i wr => ∃ k : Nat, k ≤ ps.length ∧ i = .int .i64 k ∧ Below w.heap.size w wr ∧ Below w1.heap.size w1 wr ∧ Hid (∀ u ∈ ps.take k, partOkB u = true)) (fun i _ => ps.length - (intOf i).toNat)
      case atStart => exact ⟨0, Nat.zero_le _, rfl, hb1, Below.refl _ _, by rw [List.take_zero]; intro m hm; cases hm⟩
      case round =>
        obtain ⟨k, hk, rfl, hb1, hb2, hj⟩ := hrel
        by_cases hlt : k < ps.length
        · obtain ⟨b0, o0, u, rfl, hbb, hx, h0⟩ := hr.str hlt
          replace h0 := (hb2.cell (p := ⟨b0, o0 + k, none⟩) hbb).trans h0
          have HX := Lib.hid hx
          have hm := List.mem_of_getElem? hx
          clear hx
          by_cases n0' : u = ⟨#[]⟩
          · have HO := Lib.hid (pathOk_part HPS.out hm (partOkB_no (.inl n0')))
            subst n0'
            go_wp2
            go_ret
            exact ⟨ret_bool HO.out.symm, hb1⟩
          by_cases n1' : u = ⟨#[46]⟩
          · have HO := Lib.hid (pathOk_part HPS.out hm (partOkB_no (.inr (.inl n1'))))
            subst n1'
            go_wp2
            go_ret
            exact ⟨ret_bool HO.out.symm, hb1⟩
          by_cases n2' : u = ⟨#[46, 46]⟩
          · have HO := Lib.hid (pathOk_part HPS.out hm (partOkB_no (.inr (.inr n2'))))
            subst n2'
            go_wp2
            go_ret
            exact ⟨ret_bool HO.out.symm, hb1⟩
          have HO := Lib.hid (partOkB_yes n0' n1' n2')
          have n0 : ¬ u.toList = [] := fun e => n0' (ba_ext (by rw [← Lib.toList_data]; exact e))
          have n1 : ¬ u.toList = [46] := fun e => n1' (ba_ext (by rw [← Lib.toList_data]; exact e))
          have n2 : ¬ u.toList = [46, 46] := fun e => n2' (ba_ext (by rw [← Lib.toList_data]; exact e))
          have m0 : u.toList.isEmpty = false := by rw [List.isEmpty_eq_false_iff]; exact n0
          have m1 : (u.toList == [46]) = false := beq_eq_false_iff_ne.2 n1
          have m2 : (u.toList == [46, 46]) = false := beq_eq_false_iff_ne.2 n2
          clear n0' n1' n2' n0 n1 n2
          go_wp2
          go_roundw
          case rel =>
            refine ⟨k + 1, by omega, by go_num, hb1, hb2, ?_⟩
            intro m hm
            rw [List.take_add_one, HX.out] at hm
            rcases List.mem_append.1 hm with hm | hm
            · exact hj.out m hm
            · simp at hm; subst hm; exact HO.out
          case measure => simp [intOf]; omega
        · obtain rfl : k = ps.length := by omega
          have hj' := hj.out
          rw [List.take_length] at hj'
          have HO := Lib.hid (pathOk_all h0 h1 hF.out HPS.out hj')
          go_wp2
          go_ret
          exact ⟨ret_bool HO.out.symm, hb1⟩

theorem within_ba (p d : ByteArray) : within p.data.toList d.data.toList = true ↔ ∃ h : d.size < p.size, p.extract 0 d.size = d ∧ p[d.size] = 47 := by
  have hl : p.data.toList.length = p.size := rfl
  have hd : d.data.toList.length = d.size := rfl
  have he : (p.extract 0 d.size).data.toList = p.data.toList.take d.size := by rw [ext_list]; simp
  rw [within_iff]
  constructor
  · rintro ⟨r, h⟩
    have hlt : d.size < p.size := by rw [← hl, ← hd, h]; simp
    refine ⟨hlt, ba_ext (by rw [he, h, ← hd, List.take_left]), ?_⟩
    have h1 : p.data.toList[d.size]? = some p[d.size] := by
      have := List.getElem?_eq_getElem (l := p.data.toList) (i := d.size) (by omega)
      rw [this]; rfl
    have h2 : (d.data.toList ++ 47 :: r)[d.size]? = some 47 := by rw [← hd, List.getElem?_append_right (Nat.le_refl _), Nat.sub_self]; rfl
    rw [h, h2] at h1
    injection h1 with h1
    exact h1.symm
  · rintro ⟨hlt, h1, h2⟩
    have h3 : p.data.toList[d.size]? = some p[d.size] := by
      have := List.getElem?_eq_getElem (l := p.data.toList) (i := d.size) (by omega)
      rw [this]; rfl
    refine ⟨p.data.toList.drop (d.size + 1), ?_⟩
    have h4 : p.data.toList.take d.size = d.data.toList := by rw [← he, h1]
    conv => lhs; rw [← List.take_append_drop d.size p.data.toList, h4, List.drop_eq_getElem_cons (by omega)]
    have h5 := (List.getElem?_eq_some_iff.1 h3).2
    rw [h5, h2]
theorem within_no {p d : ByteArray} (h : ¬ ∃ h : d.size < p.size, p.extract 0 d.size = d ∧ p[d.size] = 47) : within p.data.toList d.data.toList = false := by
  cases e : within p.data.toList d.data.toList with
  | false => rfl
  | true => exact absurd ((within_ba p d).1 e) h

set_option maxRecDepth 100000 in
set_option maxHeartbeats 4000000 in
theorem rwithin_any {p d : ByteArray} {w : World} (hp : p.size ≤ maxLen) (hd : d.size ≤ maxLen) : Calls Tryz.prog 84 #[.string p, .string d] w fun e w' => e = .returned (.bool (within p.data.toList d.data.toList)) ∧ w' = w := by
  unfold maxLen at hp hd
  by_cases h1 : d.size < p.size
  · have h1i : (d.size : Int) < p.size := by omega
    by_cases h2 : p.extract 0 d.size = d
    · by_cases h3 : p[d.size] = 47
      · have HO := Lib.hid ((within_ba p d).2 ⟨h1, h2, h3⟩)
        have h3i : ((p[d.size].toNat : Int) == 47) = true := by rw [h3]; rfl
        go_enter Tryz.func84, Tryz.ntmps84
        go_wp2
        go_ret
        exact ⟨ret_bool HO.out.symm, rfl⟩
      · have HO := Lib.hid (within_no (p := p) (d := d) fun ⟨_, _, h⟩ => h3 h)
        have h3i : ((p[d.size].toNat : Int) == 47) = false := by
          refine beq_eq_false_iff_ne.2 fun e => h3 (UInt8.toNat.inj ?_)
          show p[d.size].toNat = 47
          omega
        go_enter Tryz.func84, Tryz.ntmps84
        go_wp2
        go_ret
        exact ⟨ret_bool HO.out.symm, rfl⟩
    · have HO := Lib.hid (within_no (p := p) (d := d) fun ⟨_, h, _⟩ => h2 h)
      have h2i := ba_ne h2
      go_enter Tryz.func84, Tryz.ntmps84
      go_wp2
      go_ret
      exact ⟨ret_bool HO.out.symm, rfl⟩
  · have HO := Lib.hid (within_no (p := p) (d := d) fun ⟨h, _⟩ => h1 h)
    have h1i : ¬ (d.size : Int) < p.size := by omega
    go_enter Tryz.func84, Tryz.ntmps84
    go_wp2
    go_ret
    exact ⟨ret_bool HO.out.symm, rfl⟩

set_option maxRecDepth 100000 in
set_option maxHeartbeats 4000000 in
theorem rclash_any {p d : ByteArray} {w : World} (hp : p.size ≤ maxLen) (hd : d.size ≤ maxLen) : Calls Tryz.prog 66 #[.string p, .string d] w fun e w' => e = .returned (.bool (clashP p.data.toList d.data.toList)) ∧ w' = w := by
  by_cases h : p = d
  · subst h
    have HO := Lib.hid (show clashP p.data.toList p.data.toList = true by simp [clashP])
    go_enter Tryz.func66, Tryz.ntmps66
    go_wp2
    go_ret
    exact ⟨ret_bool HO.out.symm, rfl⟩
  have hn := ba_ne h
  have HC := Lib.hid (show clashP p.data.toList d.data.toList = (within p.data.toList d.data.toList || within d.data.toList p.data.toList) by
    have : ¬ p.data.toList = d.data.toList := fun e => h (ba_ext e)
    simp [clashP, this])
  have W1 := rwithin_any (w := w) hp hd
  have W2 := rwithin_any (w := w) hd hp
  cases h1 : within p.data.toList d.data.toList with
  | true =>
    rw [h1] at W1
    have HO := Lib.hid h1
    clear h1
    go_enter Tryz.func66, Tryz.ntmps66
    go_wp2_with fail
    refine W1.mono ?_
    rintro e w1 ⟨rfl, rfl⟩
    go_wp2
    go_ret
    exact ⟨ret_bool (by rw [HC.out, HO.out]; rfl), rfl⟩
  | false =>
    rw [h1] at W1
    have HO := Lib.hid h1
    clear h1
    go_enter Tryz.func66, Tryz.ntmps66
    go_wp2_with fail
    refine W1.mono ?_
    rintro e w1 ⟨rfl, rfl⟩
    go_wp2_with fail
    refine W2.mono ?_
    rintro e w2 ⟨rfl, rfl⟩
    go_wp2
    go_ret
    exact ⟨ret_bool (by rw [HC.out, HO.out]; rfl), rfl⟩
end Go.Proofs.YtahlfafcjjkliaaGreatDoor
