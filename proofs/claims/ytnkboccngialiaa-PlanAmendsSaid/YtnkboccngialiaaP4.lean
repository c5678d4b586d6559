/- Walks: plan's set of numbers; plan.Moved. -/
import Derived.Test.YtnkboccngialiaaP3
namespace Go.Proofs.Ytnkboccngialiaa
open Go.RowKit

set_option maxRecDepth 100000 in
set_option maxHeartbeats 8000000 in
theorem of_any {A : Option Addr} {c n : Nat} {L : List Int} {w : World} (hn : n ≤ 64) (hl : L.length ≤ 64) (h : Rd w w.heap.size 1 A L.length c (L.map (.int .i64))) (hL : ∀ x ∈ L, 0 ≤ x ∧ x < n) :
    Calls Try.prog 47 #[.int .i64 n, .slice A L.length c] w fun e w' => ∃ (v : Value) (W : Nat), e = .returned v ∧ SetW w' w.heap.size v n W ∧ (∀ i : Nat, i < n → W.testBit i = decide ((i : Int) ∈ L)) ∧ Below w.heap.size w w' := by
  have hq := quo_n hn
  generalize hk : (if n = 0 then 0 else 1 : Nat) = k at *
  have hk1 : k ≤ 1 := by rw [← hk]; split <;> omega
  have HLL := Lib.hid hL; clear hL
  generalize hLn : L.length = m at *
  have HM := Lib.hid hLn; clear hLn
  go_enter Try.func47, Try.ntmps47
  go_wp2_with (refine wpl_full rfl (.tmp 11) (.tmp 11) 66 rfl E66 zero76 rfl w.heap.size k (L := (k : Int)) rfl rfl rfl (by omega) (by unfold maxLen; omega) (Nat.le_refl _) ?_; intro w1 ho1 hg1)
  have hs1 : SetW w1 w.heap.size (.slice (some ⟨w.heap.size, 0, none⟩) k k) n 0 := by
    refine ⟨by decide, ?_⟩
    rw [hk]
    by_cases h0 : n = 0
    · rw [if_pos h0] at hk ⊢; subst hk; exact ho1
    · rw [if_neg h0] at hk ⊢; subst hk; exact ho1
  have hb1 := grown_b hg1
  have HK := Lib.hid hk
  clear hk hq ho1 hg1
  go_loopw [15] (fun kv wr => ∃ (j W : Nat), j ≤ m ∧ kv = .int .i64 j ∧ Below w.heap.size w wr ∧ SetW wr w.heap.size (.slice (some ⟨w.heap.size, 0, none⟩) k k) n W ∧ Hid (∀ i : Nat, i < n → W.testBit i = decide ((i : Int) ∈ L.take j))) (fun kv _ => m - (intOf kv).toNat)
  case atStart => exact ⟨0, 0, Nat.zero_le _, rfl, hb1, hs1, fun i _ => by rw [List.take_zero]; simp⟩
  case round =>
    obtain ⟨j, W, hj, rfl, hb, hs, hjj⟩ := hrel
    clear hs1 hb1
    by_cases hlt : j < m
    · obtain ⟨b0, o0, u, rfl, hbb, hx, h0⟩ := h.int_ hlt
      replace h0 := (hb.cell (p := ⟨b0, o0 + j, none⟩) hbb).trans h0
      obtain ⟨hu0, hu1⟩ := HLL.out u (List.mem_of_getElem? hx)
      obtain ⟨i, hi⟩ : ∃ i : Nat, u = (i : Int) := ⟨u.toNat, by omega⟩
      subst hi
      have HX := Lib.hid hx; clear hx
      have hn0 : ¬ n = 0 := by omega
      have hk' : k = 1 := by rw [← HK.out, if_neg hn0]
      obtain ⟨hW, ho⟩ := hs
      rw [if_neg hn0, if_neg hn0] at ho
      have c0 : wr.cell? ⟨w.heap.size, 0, none⟩ = some (.int .u64 (W : Int)) := by
        rw [hk'] at ho; exact ho.cellAt 0 (by omega)
      have hst := ho
      rw [hk'] at hst
      have fr := hst.frozenAt 0
      have hst2 := hst.stored 0 (.int .u64 ((W ||| 2 ^ i : Nat) : Int))
      have q1 := quo64 (i := i) (by omega)
      have q2 := wrap_i (i := i) (by omega)
      have q3 := rem64 (i := i) (by omega)
      have hkk : (0 : Int) < k := by omega
      clear hst ho
      go_wp2
      rw [bits_or_pow hW (by omega)]
      go_roundw
      case rel =>
        refine ⟨j + 1, W ||| 2 ^ i, by omega, by go_num, hb.setCell (Nat.le_refl _) _, ⟨or_lt hW (pow_lt (by omega)), ?_⟩, fun a ha => ?_⟩
        · rw [if_neg hn0, if_neg hn0, hk']; exact hst2.1
        · rw [bit_put, hjj.out a ha, List.take_add_one, HX.out, Option.toList_some]
          by_cases e : i = a
          · subst e; simp
          · have : ¬ (a : Int) = (i : Int) := by omega
            simp [e, this]
      case measure => simp [intOf]; omega
    · have hjn : j = m := by omega
      subst hjn
      go_wp2
      go_ret
      refine ⟨_, W, rfl, hs, fun i hi => ?_, hb⟩
      rw [hjj.out i hi, List.take_of_length_le (by rw [HM.out]; omega)]
end Go.Proofs.Ytnkboccngialiaa
