/- Walks: graphs: Right, Above, Chain, Under. -/
import Derived.Test.YtnkboccngialiaaP0
import Derived.Test.YtnkboccngialiaaM12
namespace Go.Proofs.Ytnkboccngialiaa
open Go.RowKit

section
variable {A : Option Addr} {c : Nat} {l : List Int} {w : World}
set_option maxRecDepth 100000 in
set_option maxHeartbeats 4000000 in
theorem gright_any (hn : l.length ≤ 1000000) (h : Rd w w.heap.size 1 A l.length c (l.map (.int .i64))) :
    Calls Try.prog 49 #[.slice A l.length c] w (BoolBelow (rightP l) w) := by
  generalize hL : l.length = n at *
  have HL := Lib.hid hL; clear hL
  go_enter Try.func49, Try.ntmps49
  go_wp2
  go_loopw [7] (fun i wr => ∃ k : Nat, k ≤ n ∧ i = .int .i64 k ∧ Below w.heap.size w wr ∧ Hid (∀ (j : Nat) (p : Int), j < k → l[j]? = some p → -1 ≤ p ∧ p < j)) (fun i _ => n - (intOf i).toNat)
  case atStart => exact ⟨0, Nat.zero_le _, rfl, Below.refl _ _, fun j p hj => absurd hj (Nat.not_lt_zero _)⟩
  case round =>
    obtain ⟨k, hk, rfl, hb, hj⟩ := hrel
    by_cases hlt : k < n
    · obtain ⟨b0, o0, u, rfl, hbb, hx, h0⟩ := h.int_ hlt
      replace h0 := (hb.cell (p := ⟨b0, o0 + k, none⟩) hbb).trans h0
      have HX := Lib.hid hx; clear hx
      by_cases c1 : u < -1
      · go_wp2
        go_ret
        exact ⟨ret_bool (rightP_no HX.out (.inl c1)).symm, hb⟩
      · by_cases c2 : (k : Int) ≤ u
        · go_wp2
          go_ret
          exact ⟨ret_bool (rightP_no HX.out (.inr c2)).symm, hb⟩
        · go_wp2
          go_roundw
          case rel =>
            refine ⟨k + 1, by omega, by go_num, hb, fun j p hj' hp => ?_⟩
            by_cases e : j = k
            · subst e; rw [HX.out] at hp; cases hp; omega
            · exact hj.out j p (by omega) hp
          case measure => simp [intOf]; omega
    · go_wp2
      go_ret
      refine ⟨ret_bool (rightP_yes fun j p hp => hj.out j p ?_ hp).symm, hb⟩
      have := (List.getElem?_eq_some_iff.1 hp).1
      rw [HL.out] at this; omega

set_option maxRecDepth 100000 in
set_option maxHeartbeats 4000000 in
theorem rgright_any (hn : l.length ≤ 1000000) (h : Rd w w.heap.size 1 A l.length c (l.map (.int .i64))) :
    Calls Try.prog 52 #[.slice A l.length c] w (BoolBelow (rightP l) w) := by
  generalize hL : l.length = n at *
  have HL := Lib.hid hL; clear hL
  go_enter Try.func52, Try.ntmps52
  go_wp2
  go_loopw [3] (fun i wr => ∃ k : Nat, k ≤ n ∧ i = .int .i64 k ∧ Below w.heap.size w wr ∧ Hid (∀ (j : Nat) (p : Int), j < k → l[j]? = some p → -1 ≤ p ∧ p < j)) (fun i _ => n - (intOf i).toNat)
  case atStart => exact ⟨0, Nat.zero_le _, rfl, Below.refl _ _, fun j p hj => absurd hj (Nat.not_lt_zero _)⟩
  case round =>
    obtain ⟨k, hk, rfl, hb, hj⟩ := hrel
    by_cases hlt : k < n
    · obtain ⟨b0, o0, u, rfl, hbb, hx, h0⟩ := h.int_ hlt
      replace h0 := (hb.cell (p := ⟨b0, o0 + k, none⟩) hbb).trans h0
      have HX := Lib.hid hx; clear hx
      by_cases c1 : u < -1
      · go_wp2
        go_ret
        exact ⟨ret_bool (rightP_no HX.out (.inl c1)).symm, hb⟩
      · by_cases c2 : (k : Int) ≤ u
        · go_wp2
          go_ret
          exact ⟨ret_bool (rightP_no HX.out (.inr c2)).symm, hb⟩
        · go_wp2
          go_roundw
          case rel =>
            refine ⟨k + 1, by omega, by go_num, hb, fun j p hj' hp => ?_⟩
            by_cases e : j = k
            · subst e; rw [HX.out] at hp; cases hp; omega
            · exact hj.out j p (by omega) hp
          case measure => simp [intOf]; omega
    · go_wp2
      go_ret
      refine ⟨ret_bool (rightP_yes fun j p hp => hj.out j p ?_ hp).symm, hb⟩
      have := (List.getElem?_eq_some_iff.1 hp).1
      rw [HL.out] at this; omega

def isP (l : List Int) (i : Int) : Bool := decide (0 ≤ i) && decide (i < l.length) && rightP l
set_option maxHeartbeats 1000000 in
theorem is_any {i : Int} (hn : l.length ≤ 1000000) (h : Rd w w.heap.size 1 A l.length c (l.map (.int .i64))) :
    Calls Try.prog 64 #[.slice A l.length c, .int .i64 i] w (BoolBelow (isP l i) w) := by
  have C := gright_any hn h
  by_cases c1 : 0 ≤ i
  · by_cases c2 : i < (l.length : Int)
    · have e : isP l i = rightP l := by unfold isP; simp [c1, c2]
      rw [e]
      generalize rightP l = b at *
      clear e
      go_enter Try.func64, Try.ntmps64
      go_wp2_with (go_at_call 49; refine C.mono ?_; rintro e w1 ⟨rfl, hb1⟩)
      go_ret
      exact ⟨rfl, hb1⟩
    · have e : isP l i = false := by unfold isP; simp [c2]
      go_enter Try.func64, Try.ntmps64
      go_wp2
      go_ret
      exact ⟨by first | rfl | exact ret_bool e.symm, Below.refl _ _⟩
  · have e : isP l i = false := by unfold isP; simp [c1]
    go_enter Try.func64, Try.ntmps64
    go_wp2
    go_ret
    exact ⟨by first | rfl | exact ret_bool e.symm, Below.refl _ _⟩
theorem isP_iff {l : List Int} {i : Int} : isP l i = true ↔ 0 ≤ i ∧ i < l.length ∧ rightP l = true := by
  unfold isP; simp [and_assoc]

set_option maxRecDepth 100000 in
set_option maxHeartbeats 4000000 in
theorem above_any {a b : Int} (hn : l.length ≤ 1000000) (h : Rd w w.heap.size 1 A l.length c (l.map (.int .i64))) :
    Calls Try.prog 51 #[.slice A l.length c, .int .i64 a, .int .i64 b] w (BoolBelow (above l a b) w) := by
  have C1 := is_any (i := a) hn h
  cases ha : isP l a with
  | false =>
    rw [ha] at C1
    have e : above l a b = false := above_bad fun hh => by rw [isP_iff.2 ⟨hh.2.1, hh.2.2.1, hh.1⟩] at ha; cases ha
    go_enter Try.func51, Try.ntmps51
    go_wp2_with fail
    refine C1.mono ?_
    rintro e w1 ⟨rfl, hb1⟩
    go_wp2
    go_ret
    exact ⟨ret_bool (by assumption : above l a b = false).symm, hb1⟩
  | true =>
    rw [ha] at C1
    cases hb : isP l b with
    | false =>
      have e : above l a b = false := above_bad fun hh => by rw [isP_iff.2 ⟨hh.2.2.2.1, hh.2.2.2.2, hh.1⟩] at hb; cases hb
      go_enter Try.func51, Try.ntmps51
      go_wp2_with fail
      refine C1.mono ?_
      rintro e w1 ⟨rfl, hb1⟩
      have C2 := is_any (i := b) hn (h.to hb1 hb1.size)
      rw [hb] at C2
      go_wp2_with fail
      refine C2.mono ?_
      rintro e w2 ⟨rfl, hb2⟩
      go_wp2
      go_ret
      exact ⟨ret_bool (by assumption : above l a b = false).symm, hb1.trans (hb2.mono hb1.size)⟩
    | true =>
      obtain ⟨ha0, ha1, hr⟩ := isP_iff.1 ha
      obtain ⟨hb0, hb1', _⟩ := isP_iff.1 hb
      have HR := Lib.hid hr
      go_enter Try.func51, Try.ntmps51
      go_wp2_with fail
      refine C1.mono ?_
      rintro e w1 ⟨rfl, hb1⟩
      have C2 := is_any (i := b) hn (h.to hb1 hb1.size)
      rw [hb] at C2
      go_wp2_with fail
      refine C2.mono ?_
      rintro e w2 ⟨rfl, hb2⟩
      have hbw := hb1.trans (hb2.mono hb1.size)
      clear C1 C2 hb2 hb1 ha hb
      generalize hL : l.length = n at *
      have HL := Lib.hid hL; clear hL
      go_wp2
      go_loopw [2] (fun bv wr => ∃ b' : Int, bv = .int .i64 b' ∧ -1 ≤ b' ∧ b' < n ∧ Below w.heap.size w wr ∧ Hid (above l a b = above l a b')) (fun bv _ => (intOf bv + 1).toNat)
      case atStart => exact ⟨b, rfl, by omega, hb1', hbw, rfl⟩
      case round =>
        obtain ⟨b', rfl, hm, hlt, hb, hj⟩ := hrel
        by_cases hgt : a < b'
        · obtain ⟨b0, o0, u, rfl, hbb, hx, h0⟩ := h.int_ (k := b'.toNat) (by omega)
          replace h0 := (hb.cell (p := ⟨b0, o0 + b'.toNat, none⟩) hbb).trans h0
          have hup := above_up HR.out ha0 hgt (by rw [HL.out]; exact hlt)
          have hpar := par_get hx
          rw [Int.toNat_of_nonneg (by omega)] at hpar
          have hp := rightP_at HR.out (i := b') (by omega) (by rw [HL.out]; exact hlt)
          rw [hpar] at hp hup
          have HU := Lib.hid hup
          clear hx hpar hup
          go_wp2
          go_roundw
          case rel => exact ⟨u, rfl, by omega, by omega, hb, hj.out.trans HU.out⟩
          case measure => simp [intOf]; omega
        · have he := above_end HR.out ha0 (by omega : b' ≤ a) (by rw [HL.out]; exact hlt)
          have e : above l a b = decide (a = b') := hj.out.trans he
          have HE := Lib.hid e
          clear he e
          cases hd : decide (a = b')
          · have hne : ¬ a = b' := of_decide_eq_false hd
            have HN := Lib.hid hd
            clear hd
            go_wp2
            go_ret
            exact ⟨ret_bool (by rw [HE.out, HN.out]; exact (int_ne hne).1), hb⟩
          · have hee : a = b' := of_decide_eq_true hd
            clear hd
            subst hee
            go_wp2
            go_ret
            exact ⟨ret_bool (by rw [HE.out]; simp), hb⟩

set_option maxRecDepth 100000 in
set_option maxHeartbeats 4000000 in
theorem chain_any {i : Int} (hn : l.length ≤ 1000000) (h : Rd w w.heap.size 1 A l.length c (l.map (.int .i64))) :
    Calls Try.prog 54 #[.slice A l.length c, .int .i64 i] w (Ints (· = chain l i) w) := by
  have C1 := rgright_any hn h
  cases hr : rightP l with
  | false =>
    rw [hr] at C1
    have e : chain l i = [] := chain_bad (.inl hr)
    rw [e]
    go_enter Try.func54, Try.ntmps54
    go_wp2_with fail
    refine C1.mono ?_
    rintro e w1 ⟨rfl, hb1⟩
    go_wp2
    go_ret
    exact ⟨none, 0, [], rfl, Rd.none_ _ _ _, hb1, rfl⟩
  | true =>
    rw [hr] at C1
    by_cases hi : i < (l.length : Int)
    · have HR := Lib.hid hr
      have hcl := chain_len (l := l) (b := i)
      clear hr
      generalize hL : l.length = n at *
      have HL := Lib.hid hL; clear hL
      go_enter Try.func54, Try.ntmps54
      go_wp2_with fail
      refine C1.mono ?_
      rintro e w1 ⟨rfl, hb1⟩
      go_wp2
      go_loopw [1, 5] (fun iv ov wr => ∃ (i' : Int) (out : List Int), iv = .int .i64 i' ∧ i' < n ∧ -1 ≤ max i' (-1) ∧ Below w.heap.size w wr ∧ wr.ownsRow w.heap.size 3 1 ov out.length (out.map (.int .i64)) ∧ Hid (chain l i = out ++ chain l i')) (fun iv _ _ => (intOf iv + 1).toNat)
      case atStart => exact ⟨i, [], rfl, hi, by omega, hb1, World.ownsRow_nil _ _ _ _, rfl⟩
      case round =>
        obtain ⟨i', out, rfl, hlt, _, hb, ho, hj⟩ := hrel
        by_cases hneg : 0 ≤ i'
        · obtain ⟨b0, o0, u, rfl, hbb, hx, g0⟩ := h.int_ (k := i'.toNat) (by omega)
          have hcc := chain_cons HR.out hneg (by rw [HL.out]; exact hlt)
          have hpar := par_get hx
          rw [Int.toNat_of_nonneg (by omega)] at hpar
          have hp := rightP_at HR.out (i := i') (by omega) (by rw [HL.out]; exact hlt)
          rw [hpar] at hp hcc
          have HC := Lib.hid hcc
          have hol : out.length ≤ n := by
            have := congrArg List.length hj.out
            rw [List.length_append] at this; omega
          have ho' := ho.alloc (.cells #[.int .i64 i'] 3)
          have hb' := hb.alloc hb.size (.cells #[.int .i64 i'] 3)
          clear hx hpar hcc
          go_wp2_with (at_builtin; refine wpl_append rfl (.tmp 17) (.tmp 19) 28 rfl E28 rfl rfl ho' (rd_lit1 wr i') (one_ints _) (by unfold maxLen; omega) (by omega) hb'.size ?_; intro v7 w7 ho7 hg7 hv7; have hb7 := hb'.grown hg7 hb'.size (fun g hg => (ho'.lt g hg).1); have h07 := (hb7.cell (p := ⟨b0, o0 + i'.toNat, none⟩) hbb).trans g0)
          go_roundw
          case rel =>
            refine ⟨u, out ++ [i'], rfl, by omega, by omega, hb7, ?_, ?_⟩
            · rw [List.length_append, List.map_append]; exact ho7
            · rw [hj.out, HC.out]
              show Hid _
              exact (by simp : out ++ i' :: chain l u = out ++ [i'] ++ chain l u)
          case measure => simp [intOf]; omega
        · have e : chain l i = out := by rw [hj.out, chain_neg (by omega), List.append_nil]
          have HE := Lib.hid e
          clear e
          obtain ⟨A5, c5, rfl, hc5⟩ := ownsRow_cap ho
          go_wp2
          go_ret
          exact ⟨A5, c5, out, rfl, Rd.of_own ho hc5, hb, HE.out.symm⟩
    · have e : chain l i = [] := chain_bad (.inr (by omega))
      rw [e]
      go_enter Try.func54, Try.ntmps54
      go_wp2_with fail
      refine C1.mono ?_
      rintro e w1 ⟨rfl, hb1⟩
      go_wp2
      go_ret
      exact ⟨none, 0, [], rfl, Rd.none_ _ _ _, hb1, rfl⟩
set_option maxHeartbeats 1000000 in
theorem rabove_any {a b : Int} (hn : l.length ≤ 1000000) (h : Rd w w.heap.size 1 A l.length c (l.map (.int .i64))) :
    Calls Try.prog 34 #[.slice A l.length c, .int .i64 a, .int .i64 b] w (BoolBelow (above l a b) w) := by
  have hcl := chain_len (l := l) (b := b)
  go_enter Try.func34, Try.ntmps34
  go_wp2_with fail
  refine (chain_any (i := b) hn h).mono ?_
  rintro e w1 ⟨A1, c1, l1, rfl, hr1, hb1, rfl⟩
  have C := in_any (x := a) (by unfold maxLen; omega) hr1
  go_wp2_with fail
  refine C.mono ?_
  rintro e w2 ⟨rfl, hb2⟩
  go_wp2
  go_ret
  exact ⟨rfl, hb1.trans (hb2.mono hb1.size)⟩

def underTo (l : List Int) (s : Int) (k : Nat) : List Int := ((List.range k).map Int.ofNat).filter fun i => above l s i
theorem underTo_succ (l : List Int) (s : Int) (k : Nat) : underTo l s (k + 1) = underTo l s k ++ if above l s k = true then [(k : Int)] else [] := by
  unfold underTo
  rw [List.range_succ, List.map_append, List.filter_append]
  congr 1
  cases h : above l s k with
  | false => simp [h]
  | true => simp [h]
theorem underTo_len (l : List Int) (s : Int) (k : Nat) : (underTo l s k).length ≤ k := by
  unfold underTo; refine Nat.le_trans (List.length_filter_le _ _) (by simp)
set_option maxRecDepth 100000 in
set_option maxHeartbeats 4000000 in
theorem under_any {i : Int} (hn : l.length ≤ 1000000) (h : Rd w w.heap.size 1 A l.length c (l.map (.int .i64))) :
    Calls Try.prog 53 #[.slice A l.length c, .int .i64 i] w (Ints (· = underTo l i l.length) w) := by
  go_enter Try.func53, Try.ntmps53
  go_wp2
  go_loopw [5, 6] (fun ov kv wr => ∃ k : Nat, k ≤ l.length ∧ kv = .int .i64 k ∧ Below w.heap.size w wr ∧ wr.ownsRow w.heap.size 3 1 ov (underTo l i k).length ((underTo l i k).map (.int .i64))) (fun _ kv _ => l.length - (intOf kv).toNat)
  case atStart => exact ⟨0, Nat.zero_le _, rfl, Below.refl _ _, World.ownsRow_nil _ _ _ _⟩
  case round =>
    obtain ⟨k, hk, rfl, hb, ho⟩ := hrel
    by_cases hlt : k < l.length
    · have C := rabove_any (a := i) (b := (k : Int)) hn (h.to hb hb.size)
      have hul := underTo_len l i k
      have hsu := underTo_succ l i k
      cases hab : above l i k with
      | false =>
        rw [hab] at C
        rw [hab] at hsu
        simp only [Bool.false_eq_true, if_false, List.append_nil] at hsu
        have HS := Lib.hid hsu
        clear hsu
        go_wp2_with (go_at_call 34; refine C.mono ?_; rintro e w1 ⟨rfl, hb1⟩)
        go_roundw
        case rel =>
          refine ⟨k + 1, by omega, by go_num, hb.trans (hb1.mono hb.size), ?_⟩
          rw [HS.out]; exact ho.kept (grown_none hb1 (Nat.le_refl _)) (by cases (Value.ownBlock u5) <;> simp)
        case measure => simp [intOf]; omega
      | true =>
        rw [hab] at C
        rw [hab] at hsu
        simp only [if_true] at hsu
        have HS := Lib.hid hsu
        clear hsu
        go_wp2_with (first
          | (go_at_call 34; refine C.mono ?_; rintro e w1 ⟨rfl, hb1⟩; have hbw := (hb.trans (hb1.mono hb.size)).alloc (hb.trans (hb1.mono hb.size)).size (.cells #[.int .i64 (k : Int)] 3); have ho1 := (ho.kept (grown_none hb1 (Nat.le_refl _)) (by cases (Value.ownBlock u5) <;> simp)).alloc (.cells #[.int .i64 (k : Int)] 3))
          | (at_builtin; refine wpl_append rfl (.tmp 17) (.tmp 19) 28 rfl E28 rfl rfl ho1 (rd_lit1 w1 (k : Int)) (one_ints _) (by unfold maxLen; omega) (by omega) hbw.size ?_; intro v7 w7 ho7 hg7 hv7))
        go_roundw
        case rel =>
          refine ⟨k + 1, by omega, by go_num, hbw.grown hg7 hbw.size (fun g hg => (ho1.lt g hg).1), ?_⟩
          rw [HS.out, List.length_append, List.map_append]; exact ho7
        case measure => simp [intOf]; omega
    · have hkn : k = l.length := by omega
      subst hkn
      obtain ⟨A5, c5, rfl, hc5⟩ := ownsRow_cap ho
      go_wp2
      go_ret
      exact ⟨A5, c5, _, rfl, Rd.of_own ho hc5, hb, rfl⟩
end
end Go.Proofs.Ytnkboccngialiaa
