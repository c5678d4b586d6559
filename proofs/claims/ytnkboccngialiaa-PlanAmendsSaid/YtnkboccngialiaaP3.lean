/- Walks: what lives, as a set and as a list. -/
import Derived.Test.YtnkboccngialiaaP2
namespace Go.Proofs.Ytnkboccngialiaa
open Go.RowKit

theorem bit_put {W i j : Nat} : (W ||| 2 ^ i).testBit j = (W.testBit j || decide (i = j)) := by
  rw [Nat.testBit_or, Nat.testBit_two_pow]
theorem SetW.ne {w : World} {base base' n n' W W' : Nat} {v v' : Value} (h : SetW w base v n W) (h' : SetW w base' v' n' W') (hb : ∀ k, v.ownBlock = some k → k < base') : v.ownBlock = none ∨ v.ownBlock ≠ v'.ownBlock := by
  cases hv : v.ownBlock with
  | none => exact .inl rfl
  | some k =>
    right
    intro e
    have := (h'.2.lt k e.symm).1
    have := hb k hv
    omega

set_option maxRecDepth 100000 in
set_option maxHeartbeats 8000000 in
theorem live_any {A : Option Addr} {m c n : Nat} {ms : List MV} {w : World} (hm : m ≤ maxLen) (h : RdM w w.heap.size A m c ms) (hn : n ≤ 64) :
    Calls Try.prog 62 #[.int .i64 n, .slice A m c] w fun e w' => ∃ (v : Value) (W : Nat), e = .returned v ∧ SetW w' w.heap.size v n W ∧ (∀ i, i < n → W.testBit i = !obs ms i) ∧ Below w.heap.size w w' := by
  unfold maxLen at hm
  have HL := Lib.hid h.len
  go_enter Try.func62, Try.ntmps62
  go_wp2_with fail
  refine (made77_any hn).mono ?_
  rintro e w1 ⟨v5, rfl, hs1, hb1⟩
  go_wp2
  go_loopw [14] (fun kv wr => ∃ (k G : Nat), k ≤ m ∧ kv = .int .i64 k ∧ Below w.heap.size w wr ∧ SetW wr w.heap.size v5 n G ∧ Hid (∀ i, i < n → G.testBit i = obs (ms.take k) i)) (fun kv _ => m - (intOf kv).toNat)
  case atStart => exact ⟨0, 0, Nat.zero_le _, rfl, hb1, hs1, fun i _ => by rw [List.take_zero]; simp [obs]⟩
  case round =>
    obtain ⟨k, G, hk, rfl, hb, hs, hj⟩ := hrel
    clear hs1
    by_cases hlt : k < m
    · obtain ⟨b0, o0, u, rfl, hbb, hx, hu, h0, h1⟩ := h.get hlt
      replace h0 := (hb.cell hbb).trans h0
      replace h1 := (hb.cell hbb).trans h1
      have HX := Lib.hid hx; clear hx
      have hbE := hb.alloc hb.size (.cells #[.int .i64 u.old, .slice u.A u.new.length u.c] 35)
      have hsE := hs.below ((Below.refl wr.heap.size wr).alloc (Nat.le_refl _) (.cells #[.int .i64 u.old, .slice u.A u.new.length u.c] 35))
      have hob : ∀ i : Nat, obs (ms.take (k + 1)) (i : Int) = (obs (ms.take k) i || decide (u.old = (i : Int))) := fun i => by rw [List.take_add_one, HX.out, Option.toList_some, obs_snoc]
      have HO := Lib.hid hob; clear hob
      by_cases hin : 0 ≤ u.old ∧ u.old < n
      · obtain ⟨hi0, hi1⟩ := hin
        obtain ⟨i, hi⟩ : ∃ i : Nat, u.old = (i : Int) := ⟨u.old.toNat, by omega⟩
        rw [hi] at h0 hi0 hi1 hsE hbE
        have C := put_any (i := i) hn (by omega) hsE
        go_wp2_with (go_at_call 78; refine C.mono ?_; rintro e w2 ⟨rfl, hs2, hg2⟩)
        go_roundw
        case rel =>
          refine ⟨k + 1, _, by omega, by go_num, hbE.grown hg2 hbE.size (fun g hg => (hsE.2.lt g hg).1), hs2, fun j hj' => ?_⟩
          rw [bit_put, hj.out j hj', HO.out, hi]
          congr 1
          by_cases e : i = j
          · subst e; simp
          · rw [decide_eq_false e, decide_eq_false (by omega)]
        case measure => simp [intOf]; omega
      · have hno : ∀ j : Nat, j < n → ¬ u.old = (j : Int) := fun j hj' e => by omega
        have HNo := Lib.hid hno; clear hno
        have REL : ∀ j : Nat, j < n → G.testBit j = obs (ms.take (k + 1)) j := fun j hj' => by rw [HO.out, hj.out j hj', decide_eq_false (HNo.out j hj'), Bool.or_false]
        have HRel := Lib.hid REL; clear REL
        by_cases c1 : 0 ≤ u.old
        · have c2 : ¬ u.old < n := fun c2 => hin ⟨c1, c2⟩
          clear hin
          go_wp2
          go_roundw
          case rel => exact ⟨k + 1, G, by omega, by go_num, hbE, hsE, HRel⟩
          case measure => simp [intOf]; omega
        · clear hin
          go_wp2
          go_roundw
          case rel => exact ⟨k + 1, G, by omega, by go_num, hbE, hsE, HRel⟩
          case measure => simp [intOf]; omega
    · have hkn : k = m := by omega
      subst hkn
      have hj2 := hj.out
      rw [List.take_of_length_le (by rw [HL.out]; omega)] at hj2
      have HJ := Lib.hid hj2
      clear hj hj2 hlt
      go_wp2_with fail
      refine (made77_any hn).mono ?_
      rintro e w2 ⟨v8, rfl, hs8, hb8⟩
      have hs5 := hs.below hb8
      have hv5 : ∀ g, v5.ownBlock = some g → g < wr.heap.size := fun g hg => (hs.2.lt g hg).2
      have hb2 := hb.trans (hb8.mono hb.size)
      obtain ⟨B8, hB8⟩ : ∃ B, B = wr.heap.size := ⟨_, rfl⟩
      rw [← hB8] at hs8 hv5
      have hwB : w.heap.size ≤ B8 := by rw [hB8]; exact hb.size
      clear hB8 hs hb8
      go_wp2
      go_loopw [35] (fun kv wr => ∃ (k S : Nat), k ≤ n ∧ kv = .int .i64 k ∧ Below w.heap.size w wr ∧ SetW wr w.heap.size v5 n G ∧ SetW wr B8 v8 n S ∧ Hid (∀ i, i < n → S.testBit i = (decide (i < k) && !obs ms i))) (fun kv _ => n - (intOf kv).toNat)
      case atStart => exact ⟨0, 0, Nat.zero_le _, rfl, hb2, hs5, hs8, fun i _ => by simp⟩
      case round =>
        obtain ⟨j, S, hj, rfl, hbr, hs5r, hs8r, hjj⟩ := hrel
        clear hs5 hs8 hb2
        by_cases hlt : j < n
        · have C := has79_any (i := j) hn hlt hs5r
          rw [HJ.out j hlt] at C
          have hstep : ∀ i : Nat, i < n → (decide (i < j + 1) && !obs ms i) = ((decide (i < j) && !obs ms i) || (decide (j = i) && !obs ms j)) := fun i _ => by
            by_cases e : j = i
            · subst e; simp
            · by_cases e2 : i < j
              · rw [decide_eq_true e2, decide_eq_true (by omega : i < j + 1), decide_eq_false e]; simp
              · rw [decide_eq_false e2, decide_eq_false (by omega : ¬ i < j + 1), decide_eq_false e]; simp
          have HS := Lib.hid hstep; clear hstep
          cases ho : obs ms j with
          | true =>
            rw [ho] at C
            have HO := Lib.hid ho; clear ho
            go_wp2_with fail
            refine C.mono ?_
            rintro e w3 ⟨rfl, hb3⟩
            go_wp2
            go_roundw
            case rel =>
              refine ⟨j + 1, S, by omega, by go_num, hbr.trans (hb3.mono hbr.size), hs5r.below hb3, hs8r.below hb3, fun i hi => ?_⟩
              rw [hjj.out i hi, HS.out i hi, HO.out]; simp
            case measure => simp [intOf]; omega
          | false =>
            rw [ho] at C
            have HO := Lib.hid ho; clear ho
            go_wp2_with fail
            refine C.mono ?_
            rintro e w3 ⟨rfl, hb3⟩
            have hs8b := hs8r.below hb3
            have hs5b := hs5r.below hb3
            have C2 := put_any (i := j) hn hlt hs8b
            go_wp2_with fail
            refine C2.mono ?_
            rintro e w4 ⟨rfl, hs84, hg4⟩
            have hbr3 := hbr.trans (hb3.mono hbr.size)
            go_wp2
            go_roundw
            case rel =>
              refine ⟨j + 1, _, by omega, by go_num, hbr3.grown hg4 hbr3.size (fun g hg => Nat.le_trans hwB (hs8b.2.lt g hg).1), hs5b.kept hg4 (hs5b.ne hs8b hv5), hs84, fun i hi => ?_⟩
              rw [bit_put, hjj.out i hi, HS.out i hi, HO.out]; simp
            case measure => simp [intOf]; omega
        · have hjn : j = n := by omega
          subst hjn
          go_wp2
          go_ret
          refine ⟨v8, S, rfl, ⟨hs8r.1, ownsRow_base_a hs8r.2 hwB⟩, fun i hi => ?_, hbr⟩
          rw [hjj.out i hi, decide_eq_true hi, Bool.true_and]

set_option maxRecDepth 100000 in
set_option maxHeartbeats 4000000 in
theorem list_any {n W base : Nat} {v : Value} {ms : List MV} {w : World} (hn : n ≤ 64) (h : SetW w base v n W) (hW : ∀ i, i < n → W.testBit i = !obs ms i) :
    Calls Try.prog 63 #[v, .int .i64 n] w (Ints (· = liveTo ms n) w) := by
  have HW := Lib.hid hW; clear hW
  have hlen : ∀ k, (liveTo ms k).length ≤ k := fun k => by unfold liveTo; refine Nat.le_trans (List.length_filter_le _ _) (by simp)
  go_enter Try.func63, Try.ntmps63
  go_wp2
  go_loopw [5, 8] (fun ov kv wr => ∃ k : Nat, k ≤ n ∧ kv = .int .i64 k ∧ Below w.heap.size w wr ∧ wr.ownsRow w.heap.size 3 1 ov (liveTo ms k).length ((liveTo ms k).map (.int .i64))) (fun _ kv _ => n - (intOf kv).toNat)
  case atStart => exact ⟨0, Nat.zero_le _, rfl, Below.refl _ _, World.ownsRow_nil _ _ _ _⟩
  case round =>
    obtain ⟨k, hk, rfl, hb, ho⟩ := hrel
    by_cases hlt : k < n
    · have C := has79_any (i := k) hn hlt (h.below hb)
      rw [HW.out k hlt] at C
      have hsu := liveTo_succ ms k
      have hll := hlen k
      cases hob : obs ms k with
      | true =>
        rw [hob] at C hsu
        simp only [if_true, List.append_nil] at hsu
        have HS := Lib.hid hsu; clear hsu
        go_wp2_with fail
        refine C.mono ?_
        rintro e w1 ⟨rfl, hb1⟩
        go_wp2
        go_roundw
        case rel =>
          refine ⟨k + 1, by omega, by go_num, hb.trans (hb1.mono hb.size), ?_⟩
          rw [HS.out]; exact ho.kept (grown_none hb1 (Nat.le_refl _)) (by cases (Value.ownBlock u5) <;> simp)
        case measure => simp [intOf]; omega
      | false =>
        rw [hob] at C hsu
        simp only [Bool.false_eq_true, if_false] at hsu
        have HS := Lib.hid hsu; clear hsu
        go_wp2_with (first
          | (go_at_call 79; refine C.mono ?_; rintro e w1 ⟨rfl, hb1⟩; have hbw := (hb.trans (hb1.mono hb.size)).alloc (hb.trans (hb1.mono hb.size)).size (.cells #[.int .i64 (k : Int)] 3); have ho1 := (ho.kept (grown_none hb1 (Nat.le_refl _)) (by cases (Value.ownBlock u5) <;> simp)).alloc (.cells #[.int .i64 (k : Int)] 3))
          | (at_builtin; refine wpl_append rfl (.tmp 14) (.tmp 16) 28 rfl E28 rfl rfl ho1 (rd_lit1 w1 (k : Int)) (one_ints _) (by unfold maxLen; omega) (by omega) hbw.size ?_; intro v7 w7 ho7 hg7 hv7))
        go_roundw
        case rel =>
          refine ⟨k + 1, by omega, by go_num, hbw.grown hg7 hbw.size (fun g hg => (ho1.lt g hg).1), ?_⟩
          rw [HS.out, List.length_append, List.map_append]; exact ho7
        case measure => simp [intOf]; omega
    · have hkn : k = n := by omega
      subst hkn
      obtain ⟨A5, c5, rfl, hc5⟩ := ownsRow_cap ho
      go_wp2
      go_ret
      exact ⟨A5, c5, _, rfl, Rd.of_own ho hc5, hb, rfl⟩

set_option maxRecDepth 100000 in
set_option maxHeartbeats 4000000 in
theorem liveL_any {A A2 : Option Addr} {c m c2 : Nat} {l : List Int} {ms : List MV} {w : World} (hn : l.length ≤ 64) (h : Rd w w.heap.size 1 A l.length c (l.map (.int .i64))) (hm : m ≤ maxLen) (h2 : RdM w w.heap.size A2 m c2 ms) :
    Calls Try.prog 48 #[.slice A l.length c, .slice A2 m c2] w (Ints (· = liveL l ms) w) := by
  have C := gright_any (by omega) h
  cases hr : rightP l with
  | false =>
    rw [hr] at C
    have e : liveL l ms = [] := by unfold liveL; rw [if_neg (by rw [hr]; simp)]
    rw [e]
    go_enter Try.func48, Try.ntmps48
    go_wp2_with fail
    refine C.mono ?_
    rintro e w1 ⟨rfl, hb1⟩
    go_wp2
    go_ret
    exact ⟨none, 0, [], rfl, Rd.none_ _ _ _, hb1, rfl⟩
  | true =>
    rw [hr] at C
    have e : liveL l ms = liveTo ms l.length := by unfold liveL liveTo; rw [if_pos hr]
    rw [e]
    go_enter Try.func48, Try.ntmps48
    go_wp2_with fail
    refine C.mono ?_
    rintro e w1 ⟨rfl, hb1⟩
    go_wp2_with fail
    refine (live_any hm (h2.to hb1 hb1.size) hn).mono ?_
    rintro e w2 ⟨v, W, rfl, hs, hW, hb2⟩
    go_wp2_with fail
    refine (list_any hn hs hW).mono ?_
    rintro e w3 ⟨A3, c3, l3, rfl, hr3, hb3, rfl⟩
    go_wp2
    go_ret
    exact ⟨A3, c3, _, rfl, hr3, (hb1.trans (hb2.mono hb1.size)).trans (hb3.mono (Nat.le_trans hb1.size hb2.size)), rfl⟩
end Go.Proofs.Ytnkboccngialiaa
