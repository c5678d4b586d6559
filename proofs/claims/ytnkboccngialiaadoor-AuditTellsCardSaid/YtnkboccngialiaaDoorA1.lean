/- Walks: what the two Sounds call: place, rise, nothing, a bookmark's look-up. -/
import Derived.Test.YtnkboccngialiaaDoorA0
namespace Go.Proofs.YtnkboccngialiaaDoor
open Go.RowKit

section
variable {P : Program} {S : World → Prop} {a : Act} {w w' : World} {K : Act → World → Prop}
theorem T.eff_lookup {dst : Option Tmp} {t ty : TypeId} {m x : Operand} {c q : Bool} {g : Option (Tmp × Bool)} {mv key v : Value} (hm : a.eval m = mv) (hx : a.eval x = key)
    (hrun : (Instr.lookup t mv key c).run P w = .ok v w) (hK : S w ∧ K (a.put dst v) w) : effq P S ⟨q, dst, .lookup t m x c, ty, g⟩ a w K := by
  refine eff_val (fun p af g => ?_) hK
  unfold execOp
  simp only [hm, hx, hrun, Sem.run_bind, Sem.run_pure, Result.andThen_ok]
theorem T.eff_build {dst : Option Tmp} {t ty : TypeId} {parts : Array (Nat × Operand)} {q : Bool} {g : Option (Tmp × Bool)} {vs : Array (Nat × Value)} {v : Value}
    (hv : (parts.toList.map fun p => (p.1, a.eval p.2)).toArray = vs) (hr : (Instr.build t vs).run P w = .ok v w) (hK : S w ∧ K (a.put dst v) w) : effq P S ⟨q, dst, .build t parts, ty, g⟩ a w K := by
  refine eff_val (fun p af g => ?_) hK
  have hv' : (parts.map fun p => (p.1, a.eval p.2)) = vs := by rw [← hv]; apply Array.toList_inj.1; simp
  unfold execOp
  simp only [hv', hr, Sem.run_bind, Sem.run_pure, Result.andThen_ok]
end

/-- A place, below nought where there is none. -/
def PlaceB (b : Bool) (w : World) (e : Ending) (w' : World) : Prop := ∃ k : Int, e = .returned (.int .i64 k) ∧ decide (k < 0) = !b ∧ Below w.heap.size w w'

set_option maxRecDepth 100000 in
set_option maxHeartbeats 4000000 in
theorem place_any {A : Option Addr} {n c : Nat} {l : List EV} {x : Int} {w : World} (hn : n ≤ 17592186044416) (h : Rd w w.heap.size 5 A n c (l.flatMap EV.cells)) (hl : l.length = n) :
    Calls Tryd.prog 39 #[.slice A n c, .int .i64 x] w (PlaceB (decide (x ∈ l.map EV.num)) w) := by
  have HL := Lib.hid hl
  go_enter Tryd.func39, Tryd.ntmps39
  go_wp2
  go_loopw [5] (fun i wr => ∃ k : Nat, k ≤ n ∧ i = .int .i64 k ∧ Below w.heap.size w wr ∧ Hid (∀ y ∈ l.take k, y.num ≠ x)) (fun i _ => n - (intOf i).toNat)
  case atStart => exact ⟨0, Nat.zero_le _, rfl, Below.refl _ _, by rw [List.take_zero]; intro m hm; cases hm⟩
  case round =>
    obtain ⟨k, hk, rfl, hb, hj⟩ := hrel
    by_cases hlt : k < n
    · obtain ⟨b0, o0, u, rfl, hbb, hx, hm, hc⟩ := T.rd_flat EV.cells_len (by omega) h HL.out hlt
      have h0 := (hb.cell (p := ⟨b0, o0 + k * 5, none⟩) (by show b0 < _; omega)).trans (hc 0 _ rfl)
      have HX := Lib.hid hx
      clear hx hc
      by_cases hu : u.num = x
      · have hu2 : (u.num == x) = true := beq_iff_eq.2 hu
        have HO : decide (x ∈ l.map EV.num) = true := decide_eq_true (List.mem_map.2 ⟨u, hm, hu⟩)
        have HU := Lib.hid hu
        clear hu
        go_wp2
        go_ret
        exact ⟨k, rfl, by rw [HO]; exact decide_eq_false (by omega), hb⟩
      · have hu2 := int_ne hu
        have HU := Lib.hid hu
        clear hu
        go_wp2
        go_roundw
        case rel =>
          refine ⟨k + 1, by omega, by go_num, hb, ?_⟩
          intro m hm
          rw [List.take_add_one, HX.out] at hm
          rcases List.mem_append.1 hm with hm | hm
          · exact hj m hm
          · simp at hm; subst hm; exact HU.out
        case measure => simp [intOf]; omega
    · have hkn : k = n := by omega
      subst hkn
      have HO : decide (x ∈ l.map EV.num) = false := decide_eq_false fun hm => by
        obtain ⟨y, hy, e⟩ := List.mem_map.1 hm
        have := hj.out
        rw [List.take_of_length_le (by rw [HL.out]; omega)] at this
        exact this y hy e
      go_wp2
      go_ret
      exact ⟨-1, rfl, by rw [HO]; rfl, hb⟩

set_option maxRecDepth 100000 in
set_option maxHeartbeats 4000000 in
theorem rise_any {A : Option Addr} {n c : Nat} {l : List NV} {w : World} (hn : n ≤ 17592186044416) (h : Rd w w.heap.size 2 A n c (l.flatMap NV.cells)) (hl : l.length = n) :
    Calls Tryd.prog 36 #[.slice A n c] w (BoolBelow (riseB l) w) := by
  have HL := Lib.hid hl
  go_enter Tryd.func36, Tryd.ntmps36
  go_wp2
  go_loopw [3, 6] (fun _ i wr => ∃ k : Nat, k ≤ n ∧ i = .int .i64 k ∧ Below w.heap.size w wr ∧ Hid (MarksRise l k)) (fun _ i _ => n - (intOf i).toNat)
  case atStart => exact ⟨0, Nat.zero_le _, rfl, Below.refl _ _, MarksRise.zero l⟩
  case round =>
    obtain ⟨k, hk, rfl, hb, hj⟩ := hrel
    by_cases hlt : k < n
    · obtain ⟨b0, o0, u, eA, hbb, hx, hm, hc⟩ := T.rd_flat NV.cells_len (by omega) h HL.out hlt
      cases eA
      have h0 := (hb.cell (p := ⟨b0, o0 + k * 2, none⟩) (by show b0 < _; omega)).trans (hc 0 _ rfl)
      have HX := Lib.hid hx
      clear hx hc
      by_cases hk0 : k = 0
      case' neg => obtain ⟨b1, o1, g1, eA, hbb1, hx1, _, p⟩ := T.rd_flat NV.cells_len (by omega) h HL.out (k := k - 1) (by omega)
      case' neg => cases eA
      all_goals go_wp2
      all_goals refine wp_region_q (fun w' => Below w.heap.size w w') (qs 16) mixed (by kernel_rfl) hb.drew ?_
      all_goals intro T M Q hT hT' hM hQ
      rotate_left
      · skip
        have m0 : M ⟨b0, o0 + k * 2, none⟩ = some (.string u.name) := hM _ _ fun w' hw => (hw.cell (p := ⟨b0, o0 + k * 2, none⟩) (by show b0 < _; omega)).trans (((hb.cell (p := ⟨b0, o0 + k * 2, none⟩) (by show b0 < _; omega)).symm.trans h0))
        simp only [qcmp]
        have hk1 : decide ((0 : Int) < k) = false := decide_eq_false (by omega)
        have HO := Lib.hid (MarksRise.next hj.out HX.out (fun d h1 _ => absurd h1 (by omega)))
        simp (maxSteps := 5000000) only [↓qpre, qpost, qnorm, hk1]
        have hbd := hb.drew
        refine hQ _ _ ?_
        clear hQ hT hT' hM m0
        go_wp2
        go_roundw
        case rel => exact ⟨k + 1, by omega, by go_num, hbd, HO.out⟩
        case measure => simp [intOf]; omega
      · skip
        have m0 : M ⟨b0, o0 + k * 2, none⟩ = some (.string u.name) := hM _ _ fun w' hw => (hw.cell (p := ⟨b0, o0 + k * 2, none⟩) (by show b0 < _; omega)).trans (((hb.cell (p := ⟨b0, o0 + k * 2, none⟩) (by show b0 < _; omega)).symm.trans h0))
        simp only [qcmp]
        have hk1 : decide ((0 : Int) < k) = true := decide_eq_true (by omega)
        have m5 : M ⟨b0, o0 + (k - 1) * 2, none⟩ = some (.string g1.name) := hM _ _ fun w' hw => (hw.cell (p := ⟨b0, o0 + (k - 1) * 2, none⟩) (by show b0 < _; omega)).trans (p 0 _ rfl)
        have e1 : ((k : Int) - 1).toNat = k - 1 := by omega
        have hle := leq_str u.name g1.name
        have hbd := hb.drew
        by_cases hlt2 : g1.name.data.toList < u.name.data.toList
        · have hle2 := hle.trans (by rw [decide_eq_true hlt2]; rfl : _ = false)
          have HO := Lib.hid (MarksRise.next hj.out HX.out (fun d _ h1 => by rw [hx1] at h1; injection h1 with h1; subst h1; exact hlt2))
          simp (maxSteps := 5000000) only [↓qpre, qpost, qfacts, qnorm, m0, hk1, m5, e1, hle2]
          refine ⟨⟨by omega, by omega⟩, by unfold inI64; omega, ⟨by omega, by omega⟩, hQ _ _ ?_⟩
          clear hQ hT hT' hM m0 m5 hle hle2 p
          go_wp2
          go_roundw
          case rel => exact ⟨k + 1, by omega, by go_num, hbd, HO.out⟩
          case measure => simp [intOf]; omega
        · have hle2 := hle.trans (by rw [decide_eq_false hlt2]; rfl : _ = true)
          have HO : riseB l = false := by
            have hx := HX.out
            simp only [riseB, decide_eq_false_iff_not]
            exact fun hs => hlt2 (hs k u (List.getElem?_eq_some_iff.1 hx).1 hx g1 (by omega) hx1)
          simp (maxSteps := 5000000) only [↓qpre, qpost, qfacts, qnorm, m0, hk1, m5, e1, hle2]
          refine ⟨⟨by omega, by omega⟩, by unfold inI64; omega, ⟨by omega, by omega⟩, hQ _ _ ?_⟩
          clear hQ hT hT' hM m0 m5 hle hle2 p
          go_wp2
          go_ret
          exact ⟨ret_bool HO.symm, hbd⟩
    · have hkn : k = n := by omega
      subst hkn
      have HO : riseB l = true := by
        have := hj.out
        simp only [riseB, decide_eq_true_eq]; rw [HL.out]; exact this
      go_wp2
      go_ret
      exact ⟨ret_bool HO.symm, hb⟩
end Go.Proofs.YtnkboccngialiaaDoor
