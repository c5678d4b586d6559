/- Walk: the reference's table. -/
import Derived.Test.YtabiegbbbljhlaaW4
import Derived.Test.YtabiegbbbljhlaaTab
namespace Go.Proofs.Ytabiegbbbljhlaa
open Go.RowKit

/-- An element type of one cell, and its zero. -/
structure Elem1 (P : Program) (t e : TypeId) (bytes : Nat) (z : Value) : Prop where
  und : P.underlying t = some (.slice e)
  row : ∃ i, P.info? e = some i ∧ i.zero = some z ∧ i.size = 1 ∧ i.bytes = bytes
  one : z.cells = #[z]
theorem wpl_make {P : Program} {w : World} {a : Act} {ops : Array Oper} {rest : List Oper} {o : Oper} {Q : Exit → Act → World → Prop} (hgd : o.guard = none) (l c : Operand) (t : TypeId)
    (ho : o.op = .makeSlice t l c) {e : TypeId} {bytes : Nat} {z : Value} (E : Elem1 P t e bytes z) (base n : Nat)
    {L C : Int} (hl : a.eval l = .int .i64 L) (hc : a.eval c = .int .i64 C) (hL : L = (n : Int)) (hC : C = (n : Int)) (hb : bytes * n ≤ 281474976710656) (h63 : n ≤ maxLen) (hbase : base ≤ w.heap.size)
    (hK : ∀ w', w'.ownsRow base e 1 (.slice (some ⟨w.heap.size, 0, none⟩) n n) n (List.replicate n z) → w.grownBy w' none → wpList P ops Q rest (a.put o.dst (.slice (some ⟨w.heap.size, 0, none⟩) n n)) w') :
    wpList P ops Q (o :: rest) a w := by
  obtain ⟨i, hi, hz, hs, hby⟩ := E.row
  refine wpList_make_full w hgd l c t ho base e i z 1 E.und hi hz hs .i64 .i64 L C n hl hc hL hC (by rw [hby]; exact hb) h63 hbase fun w' h1 h2 => hK w' ?_ h2
  rw [E.one, Nat.mul_one, toList_madeCells_one] at h1
  exact h1
theorem elem1_of {P : Program} {t e : TypeId} {bytes : Nat} {z : Value} (E : Elem P t e 1 bytes) (hz : (P.info? e).bind (·.zero) = some z) (h1 : z.cells = #[z]) : Elem1 P t e bytes z := by
  obtain ⟨i, z', hi, hz', hs, hb, _⟩ := E.row
  rw [hi] at hz
  simp only [Option.bind_some, hz'] at hz
  cases hz
  exact ⟨E.und, ⟨i, hi, hz', hs, hb⟩, h1⟩
theorem E79 : Elem1 Try.prog 79 64 24 (.slice none 0 0) := elem1_of (elem_of (by kernel_rfl)) (by kernel_rfl) rfl
theorem E64 : Elem1 Try.prog 64 3 8 (.int .i64 0) := elem1_of (elem_of (by kernel_rfl)) (by kernel_rfl) rfl

def RC (a b : List ByteArray) (i : Nat) (rs : List (Nat × List Value)) : Prop := ∀ q r, rs[q]? = some r → r.2 = rowP a b (i + q) 0
def TableIs (a b : List ByteArray) (w : World) (e : Ending) (w' : World) : Prop :=
  ∃ g0 rs, e = .returned (rowV a.length g0) ∧ TB w' w.heap.size g0 a.length b.length 0 rs ∧ RC a b 0 rs ∧ Below w.heap.size w w'

set_option maxRecDepth 100000 in
set_option maxHeartbeats 8000000 in
theorem table_any {A B : Option Addr} {n ca m cb : Nat} {a b : List ByteArray} {w : World} (hn : n ≤ 1048576) (hm : m ≤ 1048576)
    (ha : Rd w w.heap.size 1 A n ca (a.map .string)) (hb : Rd w w.heap.size 1 B m cb (b.map .string)) :
    Calls Try.prog 56 #[.slice A n ca, .slice B m cb] w (TableIs a b w) := by
  have HA := Lib.hid (show a.length = n by have := ha.len; simpa using this)
  have HB := Lib.hid (show b.length = m by have := hb.len; simpa using this)
  have hca := ha.cap
  have hcb := hb.cap
  have hA1 := Lib.hid (show 24 * (n + 1) ≤ 281474976710656 by omega)
  have hA2 := Lib.hid (show n + 1 ≤ maxLen by simp only [maxLen]; omega)
  have hB1 := Lib.hid (show 8 * (m + 1) ≤ 281474976710656 by omega)
  have hB2 := Lib.hid (show m + 1 ≤ maxLen by simp only [maxLen]; omega)
  go_enter Try.func56, Try.ntmps56
  go_wp2_with first
    | (at_make; refine wpl_make rfl (.tmp 10) (.tmp 10) 79 rfl E79 w.heap.size (n + 1) rfl rfl rfl rfl hA1.out hA2.out (Nat.le_refl _) ?_; intro w1 hown1 hgrow1; have HT1 := Lib.hid (TB.start (m := m) hown1); have HG1 := Lib.hid ((Below.refl w.heap.size w).grown hgrow1 (Nat.le_refl _) (fun g hg => by cases hg)); clear hown1)
    | (at_make; refine wpl_make rfl (.tmp 17) (.tmp 17) 64 rfl E64 w.heap.size (m + 1) rfl rfl rfl rfl hB1.out hB2.out hgrow1.size ?_; intro w2 hown2 hgrow2; have HT2 := Lib.hid (TB.same HT1.out hgrow2); have q0 := HT2.out.slot; have q1 := HT2.out.frz n; have HT3 := Lib.hid (TB.push HT1.out hgrow2 hown2 rfl); have HG2 := Lib.hid ((HG1.out.grown hgrow2 hgrow1.size (fun g hg => by cases hg)).setCell (p := ⟨w.heap.size, n, none⟩) (Nat.le_refl _) (rowV m w1.heap.size)))
  have hRC : Hid (RC a b n [(w1.heap.size, List.replicate (m + 1) (.int .i64 0))]) := by
    intro q r hq
    match q with
    | 0 =>
      cases hq
      show _ = rowP a b n 0
      rw [← HA.out, rowP_last, HB.out]
    | q + 1 => simp at hq
  clear HT1 HT2 q0 q1 hown2 hgrow1 hgrow2 HG1
  generalize (w2.setCell ⟨w.heap.size, n, none⟩ (rowV m w1.heap.size)) = w3 at *
  go_loopw [6] (fun i wr => ∃ (j : Nat) (rs : List (Nat × List Value)), j ≤ n ∧ i = .int .i64 ((j : Int) - 1) ∧ Below w.heap.size w wr ∧ Hid (TB wr w.heap.size w.heap.size n m j rs) ∧ Hid (RC a b j rs))
      (fun i _ => (intOf i + 1).toNat)
  case atStart => exact ⟨n, _, Nat.le_refl _, rfl, HG2.out, HT3.out, hRC.out⟩
  case round =>
    clear HT3 HG2 hRC
    obtain ⟨j, rs, hj, rfl, hbw, HT, HC⟩ := hrel
    cases j with
    | zero =>
      have hbz := Lib.hid hbw; clear hbw
      go_wp2
      go_ret
      exact ⟨w.heap.size, rs, by rw [HA.out]; rfl, by rw [HA.out, HB.out]; exact HT.out, HC.out, hbz.out⟩
    | succ j =>
      have hlen := HT.out.len
      obtain ⟨⟨g2, xs2⟩, rest, rfl⟩ : ∃ r l, rs = r :: l := by cases rs with
        | nil => simp at hlen; omega
        | cons r l => exact ⟨r, l, rfl⟩
      have hx2 := HC.out 0 _ rfl
      simp only [Nat.add_zero] at hx2
      subst hx2
      obtain ⟨ba, oa, x, rfl, hba, hax, hacell⟩ := ha.str (k := j) (by omega)
      have hwsz := hbw.size
      have HW := Lib.hid hbw; clear hbw
      go_wp2_with (at_make; refine wpl_make rfl (.tmp 31) (.tmp 31) 64 rfl E64 w.heap.size (m + 1) rfl rfl rfl rfl hB1.out hB2.out hwsz ?_; intro w4 hown4 hgrow4; have HT4 := Lib.hid (TB.same HT.out hgrow4); have q0 := HT4.out.slot; have q1 := HT4.out.frz j; have HT5 := Lib.hid (TB.push HT.out hgrow4 hown4 rfl); have HG5 := Lib.hid ((HW.out.grown hgrow4 hwsz (fun g hg => by cases hg)).setCell (p := ⟨w.heap.size, j, none⟩) (Nat.le_refl _) (rowV m wr.heap.size)))
      have HR1 : Hid (rowP a b j m = List.replicate (m + 1) (.int .i64 0)) := by have := rowP_zero a b j; rw [HB.out] at this; exact this
      rw [← HR1.out] at HT5
      clear HT4 q0 q1 hown4 hgrow4 HT HW
      have hnew := Lib.hid (Nat.le_refl wr.heap.size)
      generalize w4.setCell ⟨w.heap.size, j, none⟩ (rowV m wr.heap.size) = w5 at *
      generalize wr.heap.size = g1 at *
      go_loopw [7] (fun k wr => ∃ (q : Nat), q ≤ m ∧ k = .int .i64 ((q : Int) - 1) ∧ Below w.heap.size w wr ∧ Hid (TB wr w.heap.size w.heap.size n m j ((g1, rowP a b j q) :: (g2, rowP a b (j + 1) 0) :: rest)))
          (fun k _ => (intOf k + 1).toNat)
      case atStart => exact ⟨m, Nat.le_refl _, rfl, HG5.out, HT5.out⟩
      case round =>
        clear HT5 HG5
        obtain ⟨q, hq, rfl, hbw, HT⟩ := hrel
        have HW := Lib.hid hbw; clear hbw
        cases q with
        | zero =>
          go_wp2
          go_roundw
          case rel =>
            refine ⟨j, _, by omega, by go_num, HW.out, HT, ?_⟩
            intro q r hqr
            match q with
            | 0 => cases hqr; rfl
            | q + 1 =>
              have := HC.out q r hqr
              rw [this, show j + 1 + q = j + (q + 1) from by omega]
          case measure => simp [intOf]
        | succ q =>
          rw [show ((q + 1 : Nat) : Int) - 1 = (q : Int) from by omega]
          obtain ⟨bb, ob, y, rfl, hbb, hby, hbcell⟩ := hb.str (k := q) (by omega)
          have HX := Lib.hid hax
          have HY := Lib.hid hby; clear hby
          go_wp2
          refine wp_region_q (fun w' => Below w.heap.size w w') (qs 9) mixed (by kernel_rfl) HW.out.drew ?_
          intro T M Q hT hT' hM hQ
          have m0 : M ⟨ba, oa + j, none⟩ = some (.string x) := hM _ _ fun w' hw => (hw.cell (p := ⟨ba, oa + j, none⟩) hba).trans hacell
          have m1 : M ⟨bb, ob + q, none⟩ = some (.string y) := hM _ _ fun w' hw => (hw.cell (p := ⟨bb, ob + q, none⟩) hbb).trans hbcell
          clear hM
          simp only [qcmp]
          simp (maxSteps := 5000000) only [↓qpre, qpost, qfacts, qnorm, m0, m1]
          refine ⟨⟨by omega, by omega⟩, ⟨by omega, by omega⟩, hQ _ _ ?_⟩
          clear hQ hT hT' m0 m1
          have hc := HT.out
          obtain ⟨c1, o1⟩ := hc.at_ (q := 0) rfl
          obtain ⟨c2, o2⟩ := hc.at_ (q := 1) rfl
          have v1 : wr.cell? ⟨g1, q + 1, none⟩ = some (.int .i64 (cel a b j (q + 1))) := own_cell o1 (rowP_get (by rw [HB.out]; omega) (Nat.le_refl _))
          have v2 : wr.cell? ⟨g2, q + 1, none⟩ = some (.int .i64 (cel a b (j + 1) (q + 1))) := own_cell o2 (rowP_get (by rw [HB.out]; omega) (Nat.zero_le _))
          have v3 : wr.cell? ⟨g2, q, none⟩ = some (.int .i64 (cel a b (j + 1) q)) := own_cell o2 (rowP_get (by rw [HB.out]; omega) (Nat.zero_le _))
          have hstep := cel_step HX.out HY.out
          have l1 := cel_le a b j (q + 1)
          have l2 := cel_le a b (j + 1) (q + 1)
          have l3 := cel_le a b (j + 1) q
          rw [HA.out] at l1 l2 l3
          have V := Lib.hid (And.intro c1 (And.intro c2 (And.intro v1 (And.intro v2 v3))))
          have HS := Lib.hid hstep
          have HT6 : ∀ u : Int, u = (cel a b j q : Nat) → Hid (TB (wr.setCell ⟨g1, q, none⟩ (.int .i64 u)) w.heap.size w.heap.size n m j ((g1, rowP a b j q) :: (g2, rowP a b (j + 1) 0) :: rest)) := by
            rintro u rfl
            have := TB.store hc q (.int .i64 (cel a b j q))
            rw [rowP_set] at this
            exact this
          have hg1 := Lib.hid (o1.lt g1 rfl).1
          have hf1 := Lib.hid (hc.frz1 q)
          have hs1 : Hid ((wr.cell? ⟨g1, q, none⟩).isSome = true) := by
            obtain ⟨_, hh⟩ := List.getElem?_eq_some_iff.1 (rowP_get (a := a) (b := b) (i := j) (k := 0) (j := q) (by rw [HB.out]; omega) (Nat.zero_le _))
            have e : ∃ u, (rowP a b j (q + 1))[q]? = some u := ⟨_, List.getElem?_eq_getElem (by rw [rowP_len, HB.out]; omega)⟩
            obtain ⟨u, hu⟩ := e
            have := own_cell o1 hu
            unfold Hid
            rw [this]; rfl
          clear hc c1 c2 o1 o2 v1 v2 v3 hstep
          have T1 : ∀ z : Nat, ((z : Int) + 1).toNat = z + 1 := fun z => by omega
          cases hd : decide (x = y)
          · have hxy := of_decide_eq_false hd
            rw [if_neg hxy] at HS
            clear hd hxy
            go_wp2
            refine wp_region_l (fun w' => ∀ p : Addr, w'.cell? p = wr.cell? p) (qs 23) [23] mixed (by kernel_rfl) (fun p => rfl) ?_
            intro T M Q Q2 hT hT' hM hQ hQ2
            have m0 : M ⟨w.heap.size, j, none⟩ = some (rowV m g1) := hM _ _ fun w' hw => (hw _).trans V.out.1
            have m1 : M ⟨w.heap.size, j + 1, none⟩ = some (rowV m g2) := hM _ _ fun w' hw => (hw _).trans V.out.2.1
            have m2 : M ⟨g1, q + 1, none⟩ = some (.int .i64 (cel a b j (q + 1))) := hM _ _ fun w' hw => (hw _).trans V.out.2.2.1
            have m3 : M ⟨g2, q + 1, none⟩ = some (.int .i64 (cel a b (j + 1) (q + 1))) := hM _ _ fun w' hw => (hw _).trans V.out.2.2.2.1
            have m4 : M ⟨g2, q, none⟩ = some (.int .i64 (cel a b (j + 1) q)) := hM _ _ fun w' hw => (hw _).trans V.out.2.2.2.2
            clear hM
            simp only [qcmp]
            simp (maxSteps := 5000000) only [↓qpre, qpost, qfacts, qnorm, m0, m1, m2, m4, rowV, T1]
            refine ⟨⟨by omega, by omega⟩, ⟨by omega, by omega⟩, ⟨by omega, by omega⟩, ⟨by omega, by omega⟩, ⟨by omega, by omega⟩, ⟨by omega, by omega⟩, ⟨by omega, by omega⟩, ⟨by omega, by omega⟩, ?_⟩
            refine hQ _ _ ?_
            simp only [lates, List.map, qcmp]
            simp (maxSteps := 5000000) only [qpost]
            refine eff_store (v := .int .i64 (max (cel a b (j + 1) q : Int) (cel a b j (q + 1)))) (b := g1) (o := q) (by kernel_rfl) rfl rfl hs1.out hf1.out rfl ⟨trivial, ?_⟩
            simp (maxSteps := 5000000) only [qpost]
            refine hQ2 _ _ ?_
            have HT7 := HT6 (max (cel a b (j + 1) q : Int) (cel a b j (q + 1))) (by have := HS.out; omega)
            have HW7 := Lib.hid (HW.out.setCell (p := ⟨g1, q, none⟩) hg1.out (.int .i64 (max (cel a b (j + 1) q : Int) (cel a b j (q + 1)))))
            clear hQ hQ2 hT hT' m0 m1 m2 m3 m4 HT6 V HT hs1 hf1 hg1 HS l1 l2 l3
            go_wp2
            go_roundw
            case rel => exact ⟨q, by omega, by go_num, HW7.out.drew.drew, HT7.out.drew.drew⟩
            case measure => simp [intOf]
          · have hxy := of_decide_eq_true hd
            rw [if_pos hxy] at HS
            clear hd hxy
            go_wp2
            refine wp_region_l (fun w' => ∀ p : Addr, w'.cell? p = wr.cell? p) (qs 16) [16] mixed (by kernel_rfl) (fun p => rfl) ?_
            intro T M Q Q2 hT hT' hM hQ hQ2
            have m0 : M ⟨w.heap.size, j, none⟩ = some (rowV m g1) := hM _ _ fun w' hw => (hw _).trans V.out.1
            have m1 : M ⟨w.heap.size, j + 1, none⟩ = some (rowV m g2) := hM _ _ fun w' hw => (hw _).trans V.out.2.1
            have m2 : M ⟨g1, q + 1, none⟩ = some (.int .i64 (cel a b j (q + 1))) := hM _ _ fun w' hw => (hw _).trans V.out.2.2.1
            have m3 : M ⟨g2, q + 1, none⟩ = some (.int .i64 (cel a b (j + 1) (q + 1))) := hM _ _ fun w' hw => (hw _).trans V.out.2.2.2.1
            have m4 : M ⟨g2, q, none⟩ = some (.int .i64 (cel a b (j + 1) q)) := hM _ _ fun w' hw => (hw _).trans V.out.2.2.2.2
            clear hM
            simp only [qcmp]
            simp (maxSteps := 5000000) only [↓qpre, qpost, qfacts, qnorm, m0, m1, m3, rowV, T1]
            refine ⟨⟨by omega, by omega⟩, ⟨by omega, by omega⟩, ⟨by omega, by omega⟩, ⟨by omega, by omega⟩, ⟨by omega, by omega⟩, ⟨by omega, by omega⟩, ⟨by omega, by omega⟩, ?_⟩
            refine hQ _ _ ?_
            simp only [lates, List.map, qcmp]
            simp (maxSteps := 5000000) only [qpost]
            refine eff_store (v := .int .i64 ((cel a b (j + 1) (q + 1) : Int) + 1)) (b := g1) (o := q) (by kernel_rfl) rfl rfl hs1.out hf1.out rfl ⟨trivial, ?_⟩
            simp (maxSteps := 5000000) only [qpost]
            refine hQ2 _ _ ?_
            have HT7 := HT6 ((cel a b (j + 1) (q + 1) : Int) + 1) (by have := HS.out; omega)
            have HW7 := Lib.hid (HW.out.setCell (p := ⟨g1, q, none⟩) hg1.out (.int .i64 ((cel a b (j + 1) (q + 1) : Int) + 1)))
            clear hQ hQ2 hT hT' m0 m1 m2 m3 m4 HT6 V HT hs1 hf1 hg1 HS l1 l2 l3
            go_wp2
            go_roundw
            case rel => exact ⟨q, by omega, by go_num, HW7.out.drew.drew, HT7.out.drew.drew⟩
            case measure => simp [intOf]
end Go.Proofs.Ytabiegbbbljhlaa
