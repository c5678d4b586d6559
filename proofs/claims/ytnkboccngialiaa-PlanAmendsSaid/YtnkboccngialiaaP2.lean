/- Sets of small numbers, as bits of a word: laid, put into, asked. -/
import Derived.Test.YtnkboccngialiaaP1
import Derived.Laws.Bits64b
import Derived.Laws.ShiftsVarLaws
namespace Go.Proofs.Ytnkboccngialiaa
open Go.RowKit

/-- A set's words, of numbers below n. -/
def SetW (w : World) (base : Nat) (v : Value) (n W : Nat) : Prop :=
  W < 18446744073709551616 ∧ w.ownsRow base 76 1 v (if n = 0 then 0 else 1) (if n = 0 then [] else [.int .u64 (W : Int)])
theorem or_lt {a b : Nat} (ha : a < 18446744073709551616) (hb : b < 18446744073709551616) : a ||| b < 18446744073709551616 := Nat.or_lt_two_pow (n := 64) ha hb
theorem pow_lt {i : Nat} (hi : i < 64) : 2 ^ i < 18446744073709551616 := Nat.pow_lt_pow_right (a := 2) (m := i) (n := 64) (by omega) hi
theorem SetW.kept {w w' : World} {base n W : Nat} {v : Value} {row : Option Nat} (h : SetW w base v n W) (hg : w.grownBy w' row) (hne : v.ownBlock = none ∨ v.ownBlock ≠ row) : SetW w' base v n W := ⟨h.1, h.2.kept hg hne⟩
theorem SetW.below {w w' : World} {base n W : Nat} {v : Value} (h : SetW w base v n W) (hb : Below w.heap.size w w') : SetW w' base v n W :=
  h.kept (grown_none hb (Nat.le_refl _)) (by cases v.ownBlock <;> simp)
theorem quo64 {i : Nat} (hi : i < 64) : ((i : Int)).tdiv 64 = 0 := by
  rw [Int.tdiv_eq_ediv_of_nonneg (by omega)]; omega
theorem quo_n {n : Nat} (hn : n ≤ 64) : ((n : Int) + 64 - 1).tdiv 64 = ((if n = 0 then 0 else 1 : Nat) : Int) := by
  rw [Int.tdiv_eq_ediv_of_nonneg (by omega)]
  split <;> omega
theorem wrap_i {i : Nat} (hi : i < 64) : IntKind.u64.wrap (i : Int) = i := by rw [IntKind.wrap_u64]; omega
theorem rem64 {i : Nat} (hi : i < 64) : ((i : Int)).tmod 64 = i := by rw [Int.tmod_eq_emod_of_nonneg (by omega)]; omega

theorem bits_or_pow {W i : Nat} (hW : W < 18446744073709551616) (hi : i < 64) : bits .or .u64 (W : Int) (IntKind.u64.wrap (2 ^ i)) = ((W ||| 2 ^ i : Nat) : Int) := by
  have hp := pow_lt hi
  have e : IntKind.u64.wrap ((2 : Int) ^ i) = ((2 ^ i : Nat) : Int) := by
    have e2 : ((2 : Int) ^ i) = ((2 ^ i : Nat) : Int) := by rw [Int.natCast_pow]; rfl
    rw [e2, IntKind.wrap_u64]
    generalize 2 ^ i = q at hp ⊢
    omega
  rw [e, bits_or_u64_nat _ _ hW hp]
theorem bits_and_bit {W i : Nat} (hW : W < 18446744073709551616) : (bits .and .u64 ((W : Int) / 2 ^ i) 1 == 1) = W.testBit i := by
  have e : (W : Int) / 2 ^ i = ((W / 2 ^ i : Nat) : Int) := by
    rw [Int.natCast_ediv, Int.natCast_pow]; rfl
  have hlt : W / 2 ^ i < 18446744073709551616 := Nat.lt_of_le_of_lt (Nat.div_le_self _ _) hW
  rw [e, show (1 : Int) = ((1 : Nat) : Int) from rfl, bits_and_u64_nat _ _ hlt (by decide), Nat.testBit_eq_decide_div_mod_eq, Nat.and_one_is_mod]
  generalize W / 2 ^ i % 2 = m
  by_cases h : m = 1
  · subst h; rfl
  · rw [decide_eq_false h]
    have : ¬ (m : Int) = 1 := by omega
    exact (int_ne this).1
theorem wpl_full {P : Program} {w : World} {a : Act} {ops : Array Oper} {rest : List Oper} {o : Oper} {Q : Exit → Act → World → Prop} (hgd : o.guard = none) (l c : Operand) (t : TypeId)
    (ho : o.op = .makeSlice t l c) {e : TypeId} {bytes : Nat} {z : Value} (E : Elem P t e 1 bytes) (hz : ∀ i, P.info? e = some i → i.zero = some z) (h1 : z.cells = #[z]) (base n : Nat)
    {L : Int} (hl : a.eval l = .int .i64 L) (hc : a.eval c = .int .i64 L) (hC : L = (n : Int)) (hb : bytes * n ≤ 281474976710656) (h63 : n ≤ maxLen) (hbase : base ≤ w.heap.size)
    (hK : ∀ w', w'.ownsRow base e 1 (.slice (some ⟨w.heap.size, 0, none⟩) n n) n (List.replicate n z) → w.grownBy w' none → wpList P ops Q rest (a.put o.dst (.slice (some ⟨w.heap.size, 0, none⟩) n n)) w') :
    wpList P ops Q (o :: rest) a w := by
  obtain ⟨i, z', hi, hz', hsz, hby, hzs⟩ := E.row
  have hzz := hz i hi
  refine wpList_make_full w hgd l c t ho base e i z 1 E.und hi hzz hsz .i64 .i64 L L n hl hc hC hC (by rw [hby]; exact hb) h63 hbase ?_
  intro w' ho' hg'
  rw [Nat.mul_one, h1, toList_madeCells_one] at ho'
  exact hK w' ho' hg'
theorem E77 : Elem Try.prog 77 76 1 8 := elem_of (by kernel_rfl)
theorem E66 : Elem Try.prog 66 76 1 8 := elem_of (by kernel_rfl)
theorem E70 : Elem Try.prog 70 4 1 1 := elem_of (by kernel_rfl)
theorem zero_of_run {P : Program} {e : TypeId} {z : Value} {w : World} (h : (zeroValue e).run P w = .ok z w) : ∀ i, P.info? e = some i → i.zero = some z := by
  intro i hi
  cases hz : i.zero with
  | none => simp [zeroValue, typeInfo, hi, hz, unsupported] at h
  | some v =>
    have : (zeroValue e).run P w = .ok v w := by simp [zeroValue, typeInfo, hi, hz]
    rw [this] at h
    injection h with h
    rw [h]
theorem zero76 : ∀ i, Try.prog.info? 76 = some i → i.zero = some (.int .u64 0) := zero_of_run (Try.zeroValue76 default)
theorem zero4 : ∀ i, Try.prog.info? 4 = some i → i.zero = some (.bool false) := zero_of_run (Try.zeroValue4 default)
set_option maxRecDepth 100000 in
set_option maxHeartbeats 1000000 in
theorem made77_any {n : Nat} {w : World} (hn : n ≤ 64) : Calls Try.prog 77 #[.int .i64 n] w fun e w' => ∃ v, e = .returned v ∧ SetW w' w.heap.size v n 0 ∧ Below w.heap.size w w' := by
  have hq := quo_n hn
  generalize hk : (if n = 0 then 0 else 1 : Nat) = k at *
  have hk1 : k ≤ 1 := by rw [← hk]; split <;> omega
  go_enter Try.func77, Try.ntmps77
  go_wp2_with (refine wpl_full rfl (.tmp 6) (.tmp 6) 77 rfl E77 zero76 rfl w.heap.size k (L := (k : Int)) rfl rfl rfl (by omega) (by unfold maxLen; omega) (Nat.le_refl _) ?_; intro w1 ho1 hg1)
  go_ret
  refine ⟨_, rfl, ⟨by decide, ?_⟩, grown_b hg1⟩
  rw [hk]
  by_cases h0 : n = 0
  · rw [if_pos h0] at hk ⊢; subst hk; exact ho1
  · rw [if_neg h0] at hk ⊢; subst hk; exact ho1
set_option maxHeartbeats 1000000 in
theorem put_any {n i W base : Nat} {v : Value} {w : World} (hn : n ≤ 64) (hi : i < n) (h : SetW w base v n W) :
    Calls Try.prog 78 #[v, .int .i64 i] w fun e w' => e = .returned (.tuple #[]) ∧ SetW w' base v n (W ||| 2 ^ i) ∧ w.grownBy w' v.ownBlock := by
  obtain ⟨hW, ho⟩ := h
  rw [if_neg (by omega), if_neg (by omega)] at ho
  obtain ⟨g, cap, rfl, hgb, hgl⟩ := ho.form (by omega)
  have c0 : w.cell? ⟨g, 0, none⟩ = some (.int .u64 (W : Int)) := ho.cellAt 0 (by omega)
  have fr := ho.frozenAt 0
  have q1 := quo64 (i := i) (by omega)
  have q2 := wrap_i (i := i) (by omega)
  have q3 := rem64 (i := i) (by omega)
  have hs := (ho.stored 0 (.int .u64 ((W ||| 2 ^ i : Nat) : Int)))
  go_enter Try.func78, Try.ntmps78
  go_wp2
  rw [bits_or_pow hW (by omega)]
  go_end0
  refine ⟨rfl, ⟨or_lt hW (pow_lt (by omega)), ?_⟩, ⟨rfl, rfl, rfl, by simp, fun k _ hk => heap_setCell_other _ _ k _ (fun e => hk (by rw [e]; rfl))⟩⟩
  rw [if_neg (by omega), if_neg (by omega)]
  exact hs.1
set_option maxHeartbeats 1000000 in
theorem has79_any {n i W base : Nat} {v : Value} {w : World} (hn : n ≤ 64) (hi : i < n) (h : SetW w base v n W) :
    Calls Try.prog 79 #[v, .int .i64 i] w (BoolBelow (W.testBit i) w) := by
  obtain ⟨hW, ho⟩ := h
  rw [if_neg (by omega), if_neg (by omega)] at ho
  obtain ⟨g, cap, rfl, hgb, hgl⟩ := ho.form (by omega)
  have c0 : w.cell? ⟨g, 0, none⟩ = some (.int .u64 (W : Int)) := ho.cellAt 0 (by omega)
  have q1 := quo64 (i := i) (by omega)
  have q2 := wrap_i (i := i) (by omega)
  have q3 := rem64 (i := i) (by omega)
  go_enter Try.func79, Try.ntmps79
  go_wp2
  rw [bits_and_bit hW]
  go_ret
  exact ⟨rfl, Below.refl _ _⟩
set_option maxHeartbeats 1000000 in
theorem has50_any {n i W base : Nat} {v : Value} {w : World} (hn : n ≤ 64) (hi : i < n) (h : SetW w base v n W) :
    Calls Try.prog 50 #[v, .int .i64 i] w (BoolBelow (W.testBit i) w) := by
  obtain ⟨hW, ho⟩ := h
  rw [if_neg (by omega), if_neg (by omega)] at ho
  obtain ⟨g, cap, rfl, hgb, hgl⟩ := ho.form (by omega)
  have c0 : w.cell? ⟨g, 0, none⟩ = some (.int .u64 (W : Int)) := ho.cellAt 0 (by omega)
  have q1 := quo64 (i := i) (by omega)
  have q2 := wrap_i (i := i) (by omega)
  have q3 := rem64 (i := i) (by omega)
  go_enter Try.func50, Try.ntmps50
  go_wp2
  rw [bits_and_bit hW]
  go_ret
  exact ⟨rfl, Below.refl _ _⟩
end Go.Proofs.Ytnkboccngialiaa
