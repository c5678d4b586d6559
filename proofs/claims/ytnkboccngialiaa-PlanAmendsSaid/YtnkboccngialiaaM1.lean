/- How markers lie in memory; walks: numbers compared, one among some, few; the document's Obsolete and Markers. -/
import Derived.Test.YtnkboccngialiaaK2
namespace Go.Proofs.Ytnkboccngialiaa
open Go.RowKit

def I64 (x : Int) : Prop := -9223372036854775808 ≤ x ∧ x ≤ 9223372036854775807
structure RdM (w : World) (B : Nat) (A : Option Addr) (n c : Nat) (ms : List MV) : Prop where
  row : Rd w B 2 A n c (ms.flatMap MV.cells)
  len : ms.length = n
  parts : ∀ m ∈ ms, Rd w B 1 m.A m.new.length m.c (m.new.map (.int .i64)) ∧ m.new.length ≤ 17592186044416 ∧ I64 m.old ∧ ∀ x ∈ m.new, I64 x

theorem cells2 {ms : List MV} {k : Nat} {m : MV} (hk : ms[k]? = some m) : (ms.flatMap MV.cells)[k * 2]? = some (.int .i64 m.old) ∧ (ms.flatMap MV.cells)[k * 2 + 1]? = some (.slice m.A m.new.length m.c) := by
  induction ms generalizing k with
  | nil => simp at hk
  | cons x xs ih =>
    cases k with
    | zero => simp at hk; subst hk; simp [MV.cells]
    | succ k =>
      simp at hk
      have := ih hk
      simpa [MV.cells, Nat.succ_mul, show k * 2 + 2 + 1 = (k*2+1) + 2 from by omega] using this
theorem RdM.get {w : World} {B n c : Nat} {A : Option Addr} {ms : List MV} (h : RdM w B A n c ms) {k : Nat} (hk : k < n) :
    ∃ b o u, A = some ⟨b, o, none⟩ ∧ b < B ∧ ms[k]? = some u ∧ u ∈ ms ∧ w.cell? ⟨b, o + k * 2, none⟩ = some (.int .i64 u.old) ∧
     w.cell? ⟨b, o + k * 2 + 1, none⟩ = some (.slice u.A u.new.length u.c) := by
  obtain ⟨b, o, e, hb, hc⟩ := h.row.at_ (by omega)
  have hl : k < ms.length := by rw [h.len]; exact hk
  have hg : ms[k]? = some ms[k] := List.getElem?_eq_getElem hl
  obtain ⟨h0, h1⟩ := cells2 hg
  exact ⟨b, o, ms[k], e, hb, hg, List.getElem_mem hl, hc _ _ h0, hc _ _ h1⟩
section
variable {w w' : World} {B B' n c : Nat} {A : Option Addr} {ms : List MV}
theorem RdM.keep (h : RdM w B A n c ms) (hk : ∀ p : Addr, p.block < B → w'.cell? p = w.cell? p) : RdM w' B A n c ms :=
  ⟨h.row.keep hk, h.len, fun m hm => ⟨(h.parts m hm).1.keep hk, (h.parts m hm).2⟩⟩
theorem RdM.to (h : RdM w B A n c ms) (hb : Below B w w') (hB : B ≤ B') : RdM w' B' A n c ms :=
  ⟨h.row.to hb hB, h.len, fun m hm => ⟨(h.parts m hm).1.to hb hB, (h.parts m hm).2⟩⟩
theorem RdM.drew (h : RdM w B A n c ms) : RdM w.drew B A n c ms := ⟨h.row.drew, h.len, fun m hm => ⟨(h.parts m hm).1.drew, (h.parts m hm).2⟩⟩
end
def EqI (xs ys : List Int) (k : Nat) : Prop := ∀ j, j < k → xs[j]? = ys[j]?
theorem Rd.int_ {w : World} {B n c : Nat} {A : Option Addr} {l : List Int} (h : Rd w B 1 A n c (l.map (.int .i64))) {k : Nat} (hk : k < n) :
    ∃ b o u, A = some ⟨b, o, none⟩ ∧ b < B ∧ l[k]? = some u ∧ w.cell? ⟨b, o + k, none⟩ = some (.int .i64 u) := by
  obtain ⟨b, o, u, e, hb, hx, hc⟩ := h.one hk
  rw [List.getElem?_map] at hx
  cases hl : l[k]? with
  | none => rw [hl] at hx; cases hx
  | some s => rw [hl] at hx; cases hx; exact ⟨b, o, s, e, hb, rfl, hc⟩



set_option maxHeartbeats 1000000 in
theorem plain1I_any (x y : Int) (w : World) : Calls Try.prog 40 #[.int .i64 x, .int .i64 y] w fun e w' => e = .returned (.bool (decide (x = y))) ∧ w' = w := by
  go_enter Try.func40, Try.ntmps40
  go_wp2
  go_ret
  refine ⟨?_, rfl⟩
  by_cases h : x = y <;> simp [h]

set_option maxRecDepth 100000 in
set_option maxHeartbeats 4000000 in
theorem sameI_any {A B : Option Addr} {n ca m cb BB : Nat} {xs ys : List Int} {w : World} (hn : n ≤ maxLen) (hm : m ≤ maxLen) (hBB : BB ≤ w.heap.size)
   (ha : Rd w BB 1 A n ca (xs.map (.int .i64))) (hb : Rd w BB 1 B m cb (ys.map (.int .i64))) :
    Calls Try.prog 39 #[.slice A n ca, .slice B m cb, .func (.func 40) #[] #[]] w (BoolBelow (decide (xs = ys)) w) := by
  have HX := Lib.hid (show xs.length = n by have := ha.len; simpa using this)
  have HY := Lib.hid (show ys.length = m by have := hb.len; simpa using this)
  unfold maxLen at hn hm
  by_cases h : n = m
  · subst h
    go_enter Try.func39, Try.ntmps39
    go_wp2
    go_loopw [7] (fun i wr => ∃ k : Nat, k ≤ n ∧ i = .int .i64 k ∧ Below w.heap.size w wr ∧ EqI xs ys k) (fun i _ => n - (intOf i).toNat)
    case atStart => exact ⟨0, Nat.zero_le _, rfl, Below.refl _ _, fun j hj => absurd hj (Nat.not_lt_zero _)⟩
    case round =>
      obtain ⟨k, hk, rfl, hbw, hj⟩ := hrel
      by_cases hlt : k < n
      · obtain ⟨b0, o0, u, rfl, hb0, hx, h1⟩ := ha.int_ hlt
        obtain ⟨b1, o1, v, rfl, hb1, hy, h2⟩ := hb.int_ hlt
        have HX2 := Lib.hid hx; have HY2 := Lib.hid hy; clear hx hy
        go_wp2
        refine wp_region_q (fun w' => Below w.heap.size w w') (qe [9] 11) mixed (by kernel_rfl) hbw.drew (fun T M Q hT hT' hM hQ => ?_)
        have m0 : M ⟨b0, o0 + k, none⟩ = some (.int .i64 u) := hM _ _ fun w' hw => (hw.cell (p := ⟨b0, o0 + k, none⟩) (by show b0 < _; omega)).trans h1
        have m1 : M ⟨b1, o1 + k, none⟩ = some (.int .i64 v) := hM _ _ fun w' hw => (hw.cell (p := ⟨b1, o1 + k, none⟩) (by show b1 < _; omega)).trans h2
        simp only [qcmp, Nat.reduceBEq]
        simp (maxSteps := 5000000) only [↓qpre, qpost, qfacts, qnorm, m0, m1]
        refine ⟨⟨by omega, by omega⟩, ⟨by omega, by omega⟩, eff_call (by kernel_rfl) (plain1I_any u v _) rfl rfl ?_⟩
        rintro e w' ⟨rfl, rfl⟩
        refine ⟨_, rfl, hT _ hbw.drew, ?_⟩
        simp (maxSteps := 5000000) only [↓qpre, qpost, qnorm]
        refine hQ _ _ ?_
        have hbd := hbw.drew
        clear hQ hT hT' hM m0 m1
        cases hd : decide (u = v)
        · have he := of_decide_eq_false hd
          clear hd
          go_wp2
          go_ret
          refine ⟨ret_bool (decide_eq_false fun e => ?_).symm, hbd⟩
          subst e
          have := HX2.out; rw [HY2.out] at this; injection this with this; exact he this.symm
        · have he := Lib.hid (of_decide_eq_true hd)
          clear hd
          go_wp2
          go_roundw
          case rel =>
            refine ⟨k + 1, by omega, by go_num, hbd, fun j hj' => ?_⟩
            by_cases e : j = k
            · subst e; rw [HX2.out, HY2.out, he.out]
            · exact hj j (by omega)
          case measure => simp [intOf]; omega
      · have hkn : k = n := by omega
        go_wp2
        go_ret
        refine ⟨ret_bool (decide_eq_true ?_).symm, hbw⟩
        exact ext_get (by rw [HX.out, HY.out]) (fun j hl => hj j (by rw [HX.out] at hl; omega))
  · obtain ⟨h1, h2⟩ := int_ne (u := (n : Int)) (v := (m : Int)) (by omega)
    go_enter Try.func39, Try.ntmps39
    go_wp2
    go_ret
    refine ⟨ret_bool (decide_eq_false fun e => ?_).symm, Below.refl _ _⟩
    subst e
    exact h (HX.out.symm.trans HY.out)

set_option maxHeartbeats 1000000 in
theorem plainI_any {A B : Option Addr} {n ca m cb BB : Nat} {xs ys : List Int} {w : World} (hn : n ≤ maxLen) (hm : m ≤ maxLen) (hBB : BB ≤ w.heap.size)
   (ha : Rd w BB 1 A n ca (xs.map (.int .i64))) (hb : Rd w BB 1 B m cb (ys.map (.int .i64))) :
    Calls Try.prog 16 #[.slice A n ca, .slice B m cb] w (BoolBelow (decide (xs = ys)) w) := by
  go_enter Try.func16, Try.ntmps16
  go_wp2_with (go_at_call 39; refine (sameI_any hn hm hBB ha hb).mono ?_; rintro e w' ⟨rfl, hb'⟩)
  go_ret
  exact ⟨rfl, hb'⟩

/-- Markers and numbers from here on: no longer than may be. -/
theorem RdM.cap {w : World} {B n c : Nat} {A : Option Addr} {ms : List MV} (h : RdM w B A n c ms) : n ≤ c := h.row.cap

set_option maxRecDepth 100000 in
set_option maxHeartbeats 4000000 in
theorem few_any {A : Option Addr} {n c : Nat} {ms : List MV} {w : World} (hn : n ≤ maxLen) (h : RdM w w.heap.size A n c ms) :
    Calls Try.prog 10 #[.slice A n c] w (BoolBelow (fewM ms) w) := by
  unfold maxLen at hn
  have HL := Lib.hid h.len
  go_enter Try.func10, Try.ntmps10
  go_wp2
  go_loopw [3] (fun i wr => ∃ k : Nat, k ≤ n ∧ i = .int .i64 k ∧ Below w.heap.size w wr ∧ Hid (∀ m ∈ ms.take k, m.new.length ≤ 12)) (fun i _ => n - (intOf i).toNat)
  case atStart => exact ⟨0, Nat.zero_le _, rfl, Below.refl _ _, by rw [List.take_zero]; intro m hm; cases hm⟩
  case round =>
    obtain ⟨k, hk, rfl, hb, hj⟩ := hrel
    by_cases hlt : k < n
    · obtain ⟨b0, o0, u, rfl, hbb, hx, hu, h0, h1⟩ := h.get hlt
      replace h1 := (hb.cell hbb).trans h1
      clear h0
      have hp := (h.parts u hu).2.1
      have HX := Lib.hid hx; clear hx
      by_cases hbig : 12 < u.new.length
      · go_wp2
        go_ret
        refine ⟨ret_bool ?_, hb⟩
        symm
        cases hf : fewM ms with
        | false => rfl
        | true => have := (few_iff hf).1 u hu; omega
      · go_wp2
        go_roundw
        case rel =>
          refine ⟨k + 1, by omega, by go_num, hb, ?_⟩
          intro m hm
          rw [List.take_add_one, HX.out] at hm
          rcases List.mem_append.1 hm with hm | hm
          · exact hj m hm
          · simp at hm; subst hm; omega
        case measure => simp [intOf]; omega
    · have hkn : k = n := by omega
      subst hkn
      go_wp2
      go_ret
      refine ⟨ret_bool ?_, hb⟩
      have hall : ms.all (fun m => decide (m.new.length ≤ 12)) = true := by
        rw [List.all_eq_true]; intro m hm
        have := hj m (by rw [List.take_of_length_le (by rw [HL.out]; omega)]; exact hm)
        simpa using this
      rw [fewM, hall, HL.out, Bool.true_and]
      have e : (decide ((k : Int) ≤ 40)) = decide (k ≤ 40) := by
        by_cases hc : k ≤ 40
        · rw [decide_eq_true hc, decide_eq_true (by omega)]
        · rw [decide_eq_false hc, decide_eq_false (by omega)]
      first | exact e | simp [e]

set_option maxRecDepth 100000 in
set_option maxHeartbeats 4000000 in
theorem in_any {A : Option Addr} {n c : Nat} {l : List Int} {x : Int} {w : World} (hn : n ≤ maxLen) (h : Rd w w.heap.size 1 A n c (l.map (.int .i64))) :
    Calls Try.prog 22 #[.slice A n c, .int .i64 x] w (BoolBelow (decide (x ∈ l)) w) := by
  unfold maxLen at hn
  have HL := Lib.hid (show l.length = n by have := h.len; simpa using this)
  go_enter Try.func22, Try.ntmps22
  go_wp2
  go_loopw [5] (fun i wr => ∃ k : Nat, k ≤ n ∧ i = .int .i64 k ∧ Below w.heap.size w wr ∧ Hid (x ∉ l.take k)) (fun i _ => n - (intOf i).toNat)
  case atStart => exact ⟨0, Nat.zero_le _, rfl, Below.refl _ _, by rw [List.take_zero]; intro hm; cases hm⟩
  case round =>
    obtain ⟨k, hk, rfl, hb, hj⟩ := hrel
    by_cases hlt : k < n
    · obtain ⟨b0, o0, u, rfl, hbb, hx, h0⟩ := h.int_ hlt
      replace h0 := (hb.cell hbb).trans h0
      have HX := Lib.hid hx; clear hx
      by_cases he : u = x
      · subst he
        go_wp2
        go_ret
        exact ⟨ret_bool (decide_eq_true (List.mem_of_getElem? HX.out)).symm, hb⟩
      · obtain ⟨e1, _⟩ := int_ne he
        go_wp2
        go_roundw
        case rel =>
          refine ⟨k + 1, by omega, by go_num, hb, ?_⟩
          intro hm
          rw [List.take_add_one, HX.out] at hm
          rcases List.mem_append.1 hm with hm | hm
          · exact hj hm
          · simp at hm; exact he hm.symm
        case measure => simp [intOf]; omega
    · have hkn : k = n := by omega
      subst hkn
      go_wp2
      go_ret
      refine ⟨ret_bool (decide_eq_false ?_).symm, hb⟩
      have := hj.out
      rwa [List.take_of_length_le (by rw [HL.out]; omega)] at this

set_option maxRecDepth 100000 in
set_option maxHeartbeats 4000000 in
theorem robs_any {A : Option Addr} {n c : Nat} {ms : List MV} {x : Int} {w : World} (hn : n ≤ maxLen) (h : RdM w w.heap.size A n c ms) :
    Calls Try.prog 15 #[.slice A n c, .int .i64 x] w (BoolBelow (obs ms x) w) := by
  unfold maxLen at hn
  have HL := Lib.hid h.len
  go_enter Try.func15, Try.ntmps15
  go_wp2
  go_loopw [5] (fun i wr => ∃ k : Nat, k ≤ n ∧ i = .int .i64 k ∧ Below w.heap.size w wr ∧ Hid (obs (ms.take k) x = false)) (fun i _ => n - (intOf i).toNat)
  case atStart => exact ⟨0, Nat.zero_le _, rfl, Below.refl _ _, by rw [List.take_zero]; rfl⟩
  case round =>
    obtain ⟨k, hk, rfl, hb, hj⟩ := hrel
    by_cases hlt : k < n
    · obtain ⟨b0, o0, u, rfl, hbb, hx, hu, h0, h1⟩ := h.get hlt
      replace h0 := (hb.cell hbb).trans h0
      clear h1
      have HX := Lib.hid hx; clear hx
      by_cases he : u.old = x
      · have HU := Lib.hid hu
        clear hu
        rw [he] at h0
        go_wp2
        go_ret
        exact ⟨ret_bool (obs_iff.2 ⟨u, HU.out, he⟩).symm, hb⟩
      · obtain ⟨e1, _⟩ := int_ne he
        go_wp2
        go_roundw
        case rel =>
          refine ⟨k + 1, by omega, by go_num, hb, ?_⟩
          show obs (ms.take (k + 1)) x = false
          rw [List.take_add_one, HX.out, Option.toList_some, obs_snoc, hj.out, decide_eq_false he]; rfl
        case measure => simp [intOf]; omega
    · have hkn : k = n := by omega
      subst hkn
      go_wp2
      go_ret
      refine ⟨ret_bool ?_, hb⟩
      have := hj.out
      rw [List.take_of_length_le (by rw [HL.out]; omega)] at this
      exact this.symm
end Go.Proofs.Ytnkboccngialiaa
