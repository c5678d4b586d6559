/- Walks: the program's Within, Clash, and clashes with a set of paths. -/
import Derived.Test.YtahlfafcjjkliaaGreatDoorU3
import Derived.Test.YtahlfafcjjkliaaGreatDoorPre
import Derived.Maps.RangeWalk
namespace Go.Proofs.YtahlfafcjjkliaaGreatDoor
open Go.RowKit

theorem key_str_inv {P : Program} {t e : TypeId} {f : Field} (hu : P.underlying t = some (.struct #[f])) (hft : f.type = e) (hfo : f.offset = 0) (hct : P.cellsOf t = 1) (hce : P.cellsOf e = 1)
    (hue : P.underlying e = some .string) (hp : 0 < P.types.size) {key : Value} {kl : Lit} (h : keyOf P t key = some kl) : ∃ x : ByteArray, key = .agg #[.string x] ∧ x.size ≤ maxLen ∧ kl = klP x := by
  obtain ⟨k, hs⟩ : ∃ k, P.types.size = k + 1 := ⟨P.types.size - 1, by omega⟩
  simp only [keyOf, hu] at h
  split at h
  · rename_i hc
    simp only [Bool.and_eq_true] at hc
    obtain ⟨_, hf⟩ := hc
    cases key <;> simp [Value.formed, hu] at hf
    rename_i cs
    rw [hct] at hf
    match cs, hf with
    | ⟨[v]⟩, _ =>
      obtain ⟨ls, h1, rfl⟩ := Option.map_eq_some_iff.1 h
      have h2 : P.keyLits (k + 1 + 1) t [v] = some ls := by simpa [Value.cells, hs] using h1
      unfold Program.keyLits at h2
      simp only [hu] at h2
      simp [hft, hfo, hce, hct] at h2
      obtain ⟨_, h3⟩ := h2
      obtain ⟨a, ha, hb⟩ := Option.bind_eq_some_iff.1 h3
      have hls : ls = a := by simpa using hb.symm
      subst hls
      unfold Program.keyLits at ha
      rw [hue] at ha
      cases v <;> simp at ha
      obtain ⟨hx, rfl⟩ := ha
      exact ⟨_, rfl, hx, by simp [klP]⟩
  · cases h
set_option maxRecDepth 100000 in
theorem keyP_inv {key : Value} {kl : Lit} (h : keyOf Tryz.prog 65 key = some kl) : ∃ x : ByteArray, key = .agg #[.string x] ∧ x.size ≤ maxLen ∧ kl = klP x :=
  key_str_inv Tryz.underlying65 rfl rfl cellsP cells_str Tryz.underlying9 T.types_pos h
set_option maxRecDepth 100000 in
set_option maxHeartbeats 1000000 in
theorem pwithin_any {p d : ByteArray} {w : World} (hd : d.size ≤ 140737488351232) :
    Calls Tryz.prog 99 #[.string p, .string d] w fun e w' => e = .returned (.bool (within p.data.toList d.data.toList)) ∧ w' = w := by
  have C := Tryz.strings_HasPrefix p (d ++ ⟨#[47]⟩) w
  have HO := Lib.hid (show Lib.hasPrefix p.data.toList (d ++ ⟨#[47]⟩ : ByteArray).data.toList = within p.data.toList d.data.toList by
    simp [Lib.hasPrefix, within])
  have hsz : ((d.size : Int) + 1) ≤ 9223372036854775807 := by omega
  go_enter Tryz.func99, Tryz.ntmps99
  go_wp2_with fail
  refine C.mono ?_
  rintro e w1 ⟨rfl, rfl⟩
  go_wp2
  go_ret
  exact ⟨ret_bool HO.out, rfl⟩
set_option maxRecDepth 100000 in
set_option maxHeartbeats 1000000 in
theorem pclash_any {p d : ByteArray} {w : World} (hp : p.size ≤ 140737488351232) (hd : d.size ≤ 140737488351232) :
    Calls Tryz.prog 80 #[.string p, .string d] w fun e w' => e = .returned (.bool (clashP p.data.toList d.data.toList)) ∧ w' = w := by
  by_cases h : p = d
  · have e1 : (p.toList == d.toList) = true := by rw [h]; exact beq_self_eq_true _
    have HO := Lib.hid (show clashP p.data.toList d.data.toList = true by simp [clashP, h])
    clear h
    go_enter Tryz.func80, Tryz.ntmps80
    go_wp2
    go_ret
    exact ⟨ret_bool HO.out.symm, rfl⟩
  · have e1 := ba_ne h
    have hn : decide (p.data.toList = d.data.toList) = false := decide_eq_false fun e => h (ba_ext e)
    have C1 := pwithin_any (p := p) (d := d) (w := w) hd
    have C2 := pwithin_any (p := d) (d := p) (w := w) hp
    have HO := Lib.hid (show clashP p.data.toList d.data.toList = (within p.data.toList d.data.toList || within d.data.toList p.data.toList) by rw [clashP, hn, Bool.false_or])
    clear h hn
    cases h1 : within p.data.toList d.data.toList with
    | true =>
      rw [h1] at C1
      have H1 := Lib.hid h1
      clear h1
      go_enter Tryz.func80, Tryz.ntmps80
      go_wp2_with fail
      refine C1.mono ?_
      rintro e w1 ⟨rfl, rfl⟩
      go_wp2
      go_ret
      exact ⟨ret_bool (by rw [HO.out, H1.out]; rfl), rfl⟩
    | false =>
      rw [h1] at C1
      have H1 := Lib.hid h1
      clear h1
      go_enter Tryz.func80, Tryz.ntmps80
      go_wp2_with fail
      refine C1.mono ?_
      rintro e w1 ⟨rfl, rfl⟩
      go_wp2_with fail
      refine C2.mono ?_
      rintro e w1 ⟨rfl, rfl⟩
      go_wp2
      go_ret
      exact ⟨ret_bool (by rw [HO.out, H1.out]; rfl), rfl⟩

/-- Those that came out do not clash. -/
def Passed (S : Bs → Bool) (p : ByteArray) (left : Lit → Bool) : Prop := ∀ q : ByteArray, q.size ≤ maxLen → S q.data.toList = true → left (klP q) = false → (!decide (q = p) && clashP q.data.toList p.data.toList) = false
theorem Passed.step {S : Bs → Bool} {p x : ByteArray} {left : Lit → Bool} (h : Passed S p left) (hx : x.size ≤ maxLen) (hn : (!decide (x = p) && clashP x.data.toList p.data.toList) = false) : Passed S p (fun z => left z && !z.sameKey (klP x)) := by
  intro q hq hS hl
  by_cases e : q = x
  · subst e; exact hn
  · have h1 : (klP q).sameKey (klP x) = false := Maps.sameKey_ne (klP_ne hq hx e)
    simp only [h1, Bool.not_false, Bool.and_true] at hl
    exact h q hq hS hl
theorem Passed.clash {l : List FV} {p : ByteArray} {left : Lit → Bool} (h : Passed (pathsOf l) p left) (hl : ∀ kl, left kl = false) (hf : ∀ f ∈ l, f.path.size ≤ maxLen) : clashF l p = false := by
  simp only [clashF, List.any_eq_false, Bool.not_eq_true]
  intro f hm
  exact h f.path (hf f hm) (pathsOf_iff.2 ⟨f, hm, rfl⟩) (hl _)

set_option maxRecDepth 100000 in
set_option maxHeartbeats 4000000 in
theorem clashes_any {l : List FV} {p : ByteArray} {b n : Nat} {D : DataW Value} {w : World} (h : SetP w b n D (pathsOf l)) (hf : ∀ f ∈ l, f.path.size ≤ 140737488351232) (hp : p.size ≤ 140737488351232) :
    Calls Tryz.prog 58 #[.map (some b), .string p] w (BoolBelow (clashF l p) w) := by
  have hmm := @run_makeMap Tryz.prog
  have HF := Lib.hid (show ∀ f ∈ l, f.path.size ≤ maxLen from fun f hm => by have := hf f hm; unfold maxLen; omega)
  have hbl := h.own.lt
  go_enter Tryz.func58, Tryz.ntmps58
  go_wp2_with (first
    | (at_range; refine wpList_range_own _ rfl _ 61 rfl 65 4 KP Tryz.underlying61 _ b n _ rfl h.own ?_; intro w0 hrg0 hg0 hs0)
    | go_in)
  go_frame
  have hb0 : Below w.heap.size w w0 := grown_b hg0
  go_loopw [5] (fun _ wr => ∃ (left : Lit → Bool) (cnt : Nat), wr.ranges Tryz.prog 65 (plainElem Tryz.prog 4) b w.heap.size n D left cnt ∧ Below w.heap.size w wr ∧ Hid (Passed (pathsOf l) p left))
    (fun _ wr => wr.rangeLeft b w.heap.size)
  case atStart =>
    exact ⟨_, _, hrg0, hb0, fun q hq hS hl => by rw [h.has q hq, hS] at hl; cases hl⟩
  case round =>
    clear hrg0 hg0 hs0 hb0
    obtain ⟨left, cnt, hrg, hb, hP⟩ := hrel
    go_wp2_with (first
      | (at_next; refine wpList_next_ranges _ rfl _ rfl 65 KP (plainElem Tryz.prog 4) (fun x : ByteArray => .agg #[.string x]) (fun c : Value => c) (fun key kl hk => by obtain ⟨x, e, _⟩ := keyP_inv hk; exact ⟨x, e⟩) (fun v y hv => ⟨v, rfl⟩) b w.heap.size n _ _ _ rfl hrg ?_ ?_)
      | go_in)
    · intro hc0 hl0
      have HO := Lib.hid (hP.out.clash hl0 HF.out)
      go_wp2
      go_ret
      exact ⟨ret_bool HO.out.symm, hb⟩
    · intro x c kl a ps w1 cnt1 hkey hlx hrx hat hrg1 hlt hg1 hs1 hen
      obtain ⟨x', ex, hxs, rfl⟩ := keyP_inv hkey
      obtain rfl : x = x' := by simpa using ex
      have hS : pathsOf l x.data.toList = true := by rw [← h.has x hxs]; exact Maps.has_true_of_atKey hat
      obtain ⟨f, hfm, hfx⟩ := pathsOf_iff.1 hS
      have hxx : x.size ≤ 140737488351232 := by
        have e : f.path = x := ba_ext hfx
        rw [← e]; exact hf f hfm
      have hb1 : Below w.heap.size w w1 := hb.grown hg1 hb.size (fun j hj => by cases hj; exact Nat.le_refl _)
      have hb2 := hb1.alloc hb1.size (.cells #[.string x] 65)
      have hrg2 := hrg1.alloc (.cells #[.string x] 65)
      have HM := Lib.hid (show (w1.alloc (.cells #[.string x] 65)).rangeLeft b w.heap.size < wr.rangeLeft b w.heap.size by rw [hrg2.left_eq, hrg.left_eq]; exact hlt)
      clear ex hkey hat hrx
      by_cases hq : x = p
      · have e1 : (x.toList == p.toList) = true := by rw [hq]; exact beq_self_eq_true _
        have HN := Lib.hid (hP.out.step hxs (p := p) (by rw [hq]; simp))
        clear hq
        go_wp2
        go_roundw
        case rel => exact ⟨_, cnt1, hrg2, hb2, HN.out⟩
        case measure => exact HM.out
      · have e1 := ba_ne hq
        have C : ∀ u, Calls Tryz.prog 80 #[.string x, .string p] u (fun e w' => e = .returned (.bool (clashP x.data.toList p.data.toList)) ∧ w' = u) := fun u => pclash_any hxx hp
        cases hc : clashP x.data.toList p.data.toList with
        | true =>
          simp only [hc] at C
          have HO := Lib.hid (show clashF l p = true by
            simp only [clashF, List.any_eq_true, Bool.and_eq_true]
            exact ⟨f, hfm, by rw [show f.path = x from ba_ext hfx]; simp [hq], by rw [hfx]; exact hc⟩)
          clear hq hc
          go_wp2_with fail
          refine (C _).mono ?_
          rintro e w3 ⟨rfl, rfl⟩
          clear C
          go_wp2
          go_ret
          exact ⟨ret_bool HO.out.symm, hb2⟩
        | false =>
          simp only [hc] at C
          have HN := Lib.hid (hP.out.step hxs (p := p) (by rw [hc]; simp))
          clear hq hc
          go_wp2_with fail
          refine (C _).mono ?_
          rintro e w3 ⟨rfl, rfl⟩
          clear C
          go_wp2
          go_roundw
          case rel => exact ⟨_, cnt1, hrg2, hb2, HN.out⟩
          case measure => exact HM.out
end Go.Proofs.YtahlfafcjjkliaaGreatDoor
