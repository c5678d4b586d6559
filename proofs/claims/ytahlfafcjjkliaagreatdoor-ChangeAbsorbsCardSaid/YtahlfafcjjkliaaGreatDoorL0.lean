/- Walks: tree.Same, and what the laws of trees share: few, awake. -/
import Derived.Test.YtahlfafcjjkliaaGreatDoorU12
namespace Go.Proofs.YtahlfafcjjkliaaGreatDoor
open Go.RowKit

set_option maxRecDepth 100000 in
theorem treeSame_any {A B : Option Addr} {n ca m cb : Nat} {xs ys : List FV} {w : World} (hn : n ≤ 17592186044416) (hm : m ≤ 17592186044416)
    (ha : RdF w w.heap.size A n ca xs) (hb : RdF w w.heap.size B m cb ys) :
    Calls Tryz.prog 32 #[.slice A n ca, .slice B m cb] w (BoolBelow (decide (xs = ys)) w) := by
  have C := equalF_any hn hm ha.row hb.row ha.len hb.len
  go_enter Tryz.func32, Tryz.ntmps32
  go_wp2_with fail
  refine C.mono ?_
  rintro e w1 ⟨rfl, hb1⟩
  go_wp2
  go_ret
  exact ⟨rfl, hb1⟩

def fewF (l : List FV) (cs : List ChV) : Bool := l.all (fun f => decide (f.text.size ≤ 3000)) && (cs.all (fun f => decide (f.text.size ≤ 3000)) && (decide (l.length ≤ 40) && decide (cs.length ≤ 40)))
theorem fewF_iff {l : List FV} {cs : List ChV} : fewF l cs = true ↔ (∀ f ∈ l, f.text.size ≤ 3000) ∧ (∀ f ∈ cs, f.text.size ≤ 3000) ∧ l.length ≤ 40 ∧ cs.length ≤ 40 := by simp [fewF]
theorem fewF_no {l : List FV} {cs : List ChV} (h : ¬ ((∀ f ∈ l, f.text.size ≤ 3000) ∧ (∀ f ∈ cs, f.text.size ≤ 3000) ∧ l.length ≤ 40 ∧ cs.length ≤ 40)) : fewF l cs = false := by
  cases e : fewF l cs with
  | false => rfl
  | true => exact absurd (fewF_iff.1 e) h
set_option maxRecDepth 100000 in
set_option maxHeartbeats 4000000 in
theorem few_any {A A' : Option Addr} {n c n' c' : Nat} {l : List FV} {cs : List ChV} {w : World} (hn : n ≤ 17592186044416) (hn' : n' ≤ 17592186044416) (h : RdF w w.heap.size A n c l) (h' : RdC w w.heap.size A' n' c' cs) :
    Calls Tryz.prog 6 #[.slice A n c, .slice A' n' c'] w fun e w' => e = .returned (.bool (fewF l cs)) ∧ w' = w := by
  have HL := Lib.hid h.len
  have HL' := Lib.hid h'.len
  go_enter Tryz.func6, Tryz.ntmps6
  go_wp2
  go_loopw [5] (fun i wr => wr = w ∧ ∃ k : Nat, k ≤ n ∧ i = .int .i64 k ∧ Hid (∀ f ∈ l.take k, f.text.size ≤ 3000)) (fun i _ => n - (intOf i).toNat)
  case atStart => exact ⟨rfl, 0, Nat.zero_le _, rfl, by rw [List.take_zero]; exact Lib.hid (fun _ h => by cases h)⟩
  case round =>
    obtain ⟨rfl, k, hk, rfl, hj⟩ := hrel
    by_cases hlt : k < n
    · obtain ⟨b0, o0, f, rfl, hbb, hx, hfm, h0, h1, h2⟩ := h.get hlt
      clear h0 h1
      by_cases hq : 3000 < f.text.size
      · have HO := Lib.hid (fewF_no (l := l) (cs := cs) fun hh => by have := hh.1 f hfm; omega)
        clear hx
        go_wp2
        go_ret
        exact ⟨ret_bool HO.out.symm, rfl⟩
      · have HN := Lib.hid (show ∀ g ∈ l.take (k + 1), g.text.size ≤ 3000 from fun g hg => by
          rw [List.take_add_one, hx] at hg
          rcases List.mem_append.1 hg with hg | hg
          · exact hj.out g hg
          · simp at hg; subst hg; omega)
        clear hx
        go_wp2
        go_roundw
        case rel => exact ⟨trivial, k + 1, by omega, by go_num, HN.out⟩
        case measure => simp [intOf]; omega
    · have hkn : k = n := by omega
      subst hkn
      rw [List.take_of_length_le (by rw [HL.out]; omega)] at hj
      go_wp2
      go_loopw [6] (fun i wr' => wr' = wr ∧ ∃ k : Nat, k ≤ n' ∧ i = .int .i64 k ∧ Hid (∀ f ∈ cs.take k, f.text.size ≤ 3000)) (fun i _ => n' - (intOf i).toNat)
      case atStart => exact ⟨rfl, 0, Nat.zero_le _, rfl, by rw [List.take_zero]; exact Lib.hid (fun _ h => by cases h)⟩
      case round =>
        obtain ⟨rfl, k2, hk2, rfl, hj2⟩ := hrel
        by_cases hlt2 : k2 < n'
        · obtain ⟨b0, o0, f, rfl, hbb, hx, hfm, h0, h1, h2, h3⟩ := h'.get hlt2
          clear h0 h1 h2
          by_cases hq : 3000 < f.text.size
          · have HO := Lib.hid (fewF_no (l := l) (cs := cs) fun hh => by have := hh.2.1 f hfm; omega)
            clear hx
            go_wp2
            go_ret
            exact ⟨ret_bool HO.out.symm, rfl⟩
          · have HN := Lib.hid (show ∀ g ∈ cs.take (k2 + 1), g.text.size ≤ 3000 from fun g hg => by
              rw [List.take_add_one, hx] at hg
              rcases List.mem_append.1 hg with hg | hg
              · exact hj2.out g hg
              · simp at hg; subst hg; omega)
            clear hx
            go_wp2
            go_roundw
            case rel => exact ⟨trivial, k2 + 1, by omega, by go_num, HN.out⟩
            case measure => simp [intOf]; omega
        · have hkn : k2 = n' := by omega
          subst hkn
          rw [List.take_of_length_le (by rw [HL'.out]; omega)] at hj2
          by_cases q1 : k ≤ 40
          · by_cases q2 : k2 ≤ 40
            · have HO := Lib.hid (fewF_iff.2 ⟨hj.out, hj2.out, by rw [HL.out]; exact q1, by rw [HL'.out]; exact q2⟩)
              go_wp2
              go_ret
              exact ⟨ret_bool (by rw [HO.out]; exact decide_eq_true (by omega)), rfl⟩
            · have HO := Lib.hid (fewF_no (l := l) (cs := cs) fun hh => by have := hh.2.2.2; rw [HL'.out] at this; omega)
              go_wp2
              go_ret
              exact ⟨ret_bool (by rw [HO.out]; exact decide_eq_false (by omega)), rfl⟩
          · have HO := Lib.hid (fewF_no (l := l) (cs := cs) fun hh => by have := hh.2.2.1; rw [HL.out] at this; omega)
            go_wp2
            go_ret
            exact ⟨ret_bool HO.out.symm, rfl⟩

def fileA : FV := ⟨⟨#[97]⟩, false, ⟨#[120]⟩⟩
theorem treeOk_nil : treeOk [] = true := treeOk_iff.2 ⟨by simp, fun _ h => by simp at h, fun i a b h => by simp at h, fun _ h => by simp at h⟩
theorem within_self (p : Bs) : within p p = false := by
  cases h : within p p with
  | false => rfl
  | true => exact absurd (within_lt h) (Nat.lt_irrefl _)
theorem treeOk_one {f : FV} (h : FileOk f) : treeOk [f] = true := by
  refine treeOk_iff.2 ⟨by simp, fun g hg => ?_, fun i a b ha hb => ?_, fun a ha b hb => ?_⟩
  · simp only [List.mem_singleton] at hg; subst hg; exact h
  · simp at hb
  · simp only [List.mem_singleton] at ha hb; subst ha; subst hb; exact within_self _
theorem okA : FileOk fileA := ⟨by decide +kernel, by decide +kernel⟩
theorem put_one {f : FV} (h : FileOk f) : putF [] f = ([f], 0) := by
  have h1 : ¬ pathOk f.p = false := by rw [h.1]; decide
  have h2 : ¬ 20000 < f.text.size := Nat.not_lt.2 h.2
  simp [putF, treeOk_nil, h1, h2, hasP, clashF, sortedIn]
theorem putA : putF [] fileA = ([fileA], 0) := put_one okA
theorem treeA : treeOk [fileA] = true := treeOk_one okA
theorem chgA : (changesF [fileA] []).length = 1 := by decide +kernel
theorem rdC_none (w : World) : RdC w w.heap.size none 0 0 [] := ⟨Rd.none_ _ _ _, rfl, fun _ h => by cases h⟩
set_option maxRecDepth 100000 in
theorem run_fileA (w : World) : (Instr.build 35 #[(0, .string ⟨#[97]⟩), (2, .string ⟨#[120]⟩)]).run Tryz.prog w = .ok (.agg #[.string ⟨#[97]⟩, .bool false, .string ⟨#[120]⟩]) w := by
  go_simp
set_option maxRecDepth 100000 in
set_option maxHeartbeats 4000000 in
theorem awake_any {w : World} (hm : Lm w) : Calls Tryz.prog 7 #[] w (BoolBelow true w) := by
  have hz := fun u => run_fileA u
  have C : Calls Tryz.prog 30 #[.slice none 0 0, .agg #[.string ⟨#[97]⟩, .bool false, .string ⟨#[120]⟩]] w _ := put_any (f := fileA) (by omega) hm (RdF.none_ _ _) ⟨by decide, by decide⟩
  rw [putA] at C
  go_enter Tryz.func7, Tryz.ntmps7
  go_wp2_with fail
  refine C.mono ?_
  rintro e w1 ⟨A, c, rfl, hr, hb1⟩
  have HL : ([fileA] : List FV).length = 1 := rfl
  have hr1 : RdF w1 w1.heap.size A 1 c [fileA] := hr
  have hm1 := hm.below hb1 hm.lt
  clear C hr
  go_wp2_with fail
  refine (treeRight_any (by omega) hm1 hr1).mono ?_
  rintro e w2 ⟨rfl, hb2⟩
  rw [treeA]
  have hr2 := hr1.to hb2 hb2.size
  have hc2 := hb1.trans (hb2.mono hb1.size)
  clear hr1 hb1 hb2 hm1
  go_wp2_with fail
  refine (treeSame_any (by omega) (by omega) hr2 hr2).mono ?_
  rintro e w3 ⟨rfl, hb3⟩
  rw [decide_eq_true (rfl : [fileA] = [fileA])]
  have hr3 := hr2.to hb3 hb3.size
  have hc3 := hc2.trans (hb3.mono hc2.size)
  clear hr2 hc2 hb3
  go_wp2_with fail
  refine (changes_any (by omega) (by omega) hr3 (RdF.none_ _ _)).mono ?_
  rintro e w4 ⟨A4, c4, l4, rfl, rfl, hr4, hb4⟩
  rw [chgA]
  have hc4 := hc3.trans (hb4.mono hc3.size)
  clear hr3 hc3 hb4 hr4
  go_wp2
  go_ret
  exact ⟨rfl, hc4⟩
end Go.Proofs.YtahlfafcjjkliaaGreatDoor
