/- Walk: ScriptDecodes. -/
import Derived.Test.YtnkboccngialiaaDoorS10
namespace Go.Proofs.YtnkboccngialiaaDoor
open Go.RowKit

theorem rd_pre {w : World} {B n c : Nat} {A : Option Addr} {l : List UInt8} {r : List Value} (hl : l.length = n) (h : Rd w B 1 A (n + 3) c (by8 l ++ r)) : Rd w B 1 A n c (by8 l) :=
  ⟨by rw [by8_len, hl, Nat.mul_one], by have := h.cap; omega, fun h0 => by
    obtain ⟨b, o, e, hb, hc⟩ := h.at_ (by omega)
    refine ⟨b, o, e, hb, fun j u hu => hc j u ?_⟩
    rw [List.getElem?_append_left (List.getElem?_eq_some_iff.1 hu).1]
    exact hu⟩

set_option maxRecDepth 100000 in
set_option maxHeartbeats 8000000 in
theorem decodes_any {A : Option Addr} {n c : Nat} {xs : List UInt8} {w : World} (hr : Rd w w.heap.size 1 A n c (by8 xs)) (hc : c ≤ 140737488351232) :
    Calls Tryd.prog 3 #[.slice A n c] w (BoolBelow true w) := by
  have hn1 := hr.cap
  have HL := Lib.hid (show xs.length = n by have := hr.len; rw [by8_len] at this; omega)
  have HR := Lib.hid hr
  clear hr
  by_cases hn : 2000 < n
  · have hn2 : (2000 : Int) < n := by omega
    go_enter Tryd.func3, Tryd.ntmps3
    go_wp2_with fail
    refine (awake_any w).mono ?_
    rintro e w1 ⟨rfl, hb⟩
    go_wp2
    go_ret
    exact ⟨rfl, hb⟩
  have hn2 : ¬ (2000 : Int) < n := by omega
  go_enter Tryd.func3, Tryd.ntmps3
  go_wp2_with fail
  refine (ownB_any (x := 71) (by omega) HR.out).mono ?_
  rintro e w1 ⟨g, rfl, ho, hb1⟩
  have HI := Lib.hid (Rd.of_own ho (Nat.le_refl _))
  have HB1 := Lib.hid hb1
  have hs1 := hb1.size
  clear ho hb1
  go_wp2_with fail
  refine (awake_any w1).mono ?_
  rintro e w2 ⟨rfl, hb2⟩
  have HI2 := Lib.hid (HI.out.to hb2 hb2.size)
  have HB2 := Lib.hid (HB1.out.trans (hb2.mono hs1))
  have hs2 := HB2.out.size
  clear HI HB1 hb2
  go_wp2_with fail
  refine (decode_any (by omega) (Nat.le_refl _) (rd_pre HL.out HI2.out)).mono ?_
  rintro e w3 ⟨A3, c3, ss, rfl, hS, hp, hb3⟩
  rw [HL.out] at hS ⊢
  have HS3 := Lib.hid hS
  have HP3 := Lib.hid hp
  have HI3 := Lib.hid (HI2.out.to hb3 hb3.size)
  have HB3 := Lib.hid (HB2.out.trans (hb3.mono hs2))
  have hs3 := HB3.out.size
  clear hS hp hb3 HI2 HB2
  go_wp2_with fail
  refine (rdecode_any (by omega) hs3 (HR.out.below HB3.out)).mono ?_
  rintro e w4 ⟨A4, c4, ss', rfl, hS, hp, hb4⟩
  rw [HL.out] at hS ⊢
  have HS4 := Lib.hid hS
  have HS34 := Lib.hid (HS3.out.to hb4 hb4.size)
  have HE := Lib.hid (HP3.out.trans hp.symm)
  have HI4 := Lib.hid (HI3.out.to hb4 hb4.size)
  have HB4 := Lib.hid (HB3.out.trans (hb4.mono hs3))
  have hs4 := HB4.out.size
  have hns : nst n ≤ 200 := by unfold nst; omega
  clear hS hp hb4 HI3 HB3 HS3 HP3
  generalize nst n = N at *
  go_wp2_with fail
  refine (sameS_eq (by omega) (Nat.le_refl _) HS34.out HS4.out HE.out).mono ?_
  rintro e w5 ⟨rfl, hb5⟩
  have HI5 := Lib.hid (HI4.out.to hb5 hb5.size)
  have HB5 := Lib.hid (HB4.out.trans (hb5.mono hs4))
  have hs5 := HB5.out.size
  clear hb5 HI4 HB4 HS4 HS34 HE
  go_wp2_with fail
  refine (keptB_any (x := 71) (by omega) (Nat.le_refl _) HI5.out (HR.out.to HB5.out hs5)).mono ?_
  rintro e w6 ⟨rfl, hb6⟩
  have HB6 := Lib.hid (HB5.out.trans (hb6.mono hs5))
  clear hb6 HI5 HB5
  go_wp2
  go_ret
  exact ⟨rfl, HB6.out⟩
end Go.Proofs.YtnkboccngialiaaDoor
