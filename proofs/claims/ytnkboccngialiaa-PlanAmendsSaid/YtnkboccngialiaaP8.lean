/- Walks: who is an orphan. -/
import Derived.Test.YtnkboccngialiaaP7
namespace Go.Proofs.Ytnkboccngialiaa
open Go.RowKit

def Orp (l : List Int) (ms : List MV) (w : World) (e : Ending) (w' : World) : Prop :=
  ∃ (a b : Int) (s : Bool), e = .returned (.tuple #[.int .i64 a, .int .i64 b, .bool s]) ∧ OrphanIs l ms a b s ∧ Below w.heap.size w w'
theorem no1 {l : List Int} {ms : List MV} {i : Int} (h : obs ms i = true) : ∀ t, ¬ IsOrph l ms i t := fun t ho => by have := ho.2.1; rw [h] at this; cases this
theorem no2 {l : List Int} {ms : List MV} {i : Int} (h : par l i < 0) : ∀ t, ¬ IsOrph l ms i t := fun t ho => by have := ho.1; omega
theorem no3 {l : List Int} {ms : List MV} {i : Int} (h : obs ms (par l i) = false) : ∀ t, ¬ IsOrph l ms i t := fun t ho => by have := ho.2.2.1; rw [h] at this; cases this
theorem no4 {l : List Int} {ms : List MV} {i t0 : Int} (h : TargetIs l ms (par l i) t0) (hs : t0 = i ∨ above l i t0 = true) : ∀ t, ¬ IsOrph l ms i t := fun t ho => by
  have e := ho.2.2.2.1.uniq h
  subst e
  rcases hs with hs | hs
  · exact ho.2.2.2.2.1 hs
  · have := ho.2.2.2.2.2; rw [hs] at this; cases this
def NoneTo (l : List Int) (ms : List MV) (k : Nat) : Prop := ∀ j : Nat, j < k → ∀ t, ¬ IsOrph l ms j t
theorem NoneTo.step {l : List Int} {ms : List MV} {k : Nat} (h : NoneTo l ms k) (hk : ∀ t, ¬ IsOrph l ms (k : Nat) t) : NoneTo l ms (k + 1) := fun j hj => by
  by_cases e : j = k
  · subst e; exact hk
  · exact h j (by omega)

set_option maxRecDepth 100000 in
set_option maxHeartbeats 8000000 in
theorem orphan_any {A A2 : Option Addr} {c m c2 : Nat} {l : List Int} {ms : List MV} {w : World} (hn : l.length ≤ 64) (h : Rd w w.heap.size 1 A l.length c (l.map (.int .i64))) (hm : m ≤ maxLen) (h2 : RdM w w.heap.size A2 m c2 ms) (hf : fewM ms = true) :
    Calls Try.prog 27 #[.slice A l.length c, .slice A2 m c2] w (Orp l ms w) := by
  have HF := Lib.hid hf; clear hf
  go_enter Try.func27, Try.ntmps27
  go_wp2_with fail
  refine (liveL_any hn h hm h2).mono ?_
  rintro e w1 ⟨A3, c3, l3, rfl, hr3, hb1, hl3⟩
  have hll : l3.length ≤ 64 := by rw [hl3]; exact Nat.le_trans (liveL_len l ms) hn
  have hin3 : ∀ x ∈ l3, 0 ≤ x ∧ x < (l.length : Int) := fun x hx => by rw [hl3] at hx; have := mem_liveL.1 hx; omega
  have CO := of_any hn hll hr3 hin3
  have HL3 := Lib.hid hl3
  clear hl3
  go_wp2_with fail
  refine CO.mono ?_
  rintro e w2 ⟨v8, W, rfl, hset, hW, hb2⟩
  have hb12 := hb1.trans (hb2.mono hb1.size)
  have C := gright_any (by omega) (h.to hb12 hb12.size)
  clear CO hr3 hin3 hll
  cases hr : rightP l with
  | false =>
    rw [hr] at C
    have HR := Lib.hid hr; clear hr
    go_wp2_with fail
    refine C.mono ?_
    rintro e w3 ⟨rfl, hb3⟩
    go_wp2
    go_ret3
    exact ⟨-1, -1, false, rfl, .none_ (fun h => by rw [HR.out] at h; cases h), hb12.trans (hb3.mono hb12.size)⟩
  | true =>
    rw [hr] at C
    have HR := Lib.hid hr; clear hr
    have hWW : ∀ i : Nat, i < l.length → W.testBit i = !obs ms i := fun i hi => by
      rw [hW i hi]
      cases ho : obs ms i with
      | true => exact decide_eq_false fun hx => by rw [HL3.out, mem_liveL] at hx; rw [hx.2.2.2] at ho; cases ho
      | false => exact decide_eq_true (by rw [HL3.out]; exact mem_liveL.2 ⟨HR.out, by omega, by omega, ho⟩)
    have HWW := Lib.hid hWW
    clear hWW hW HL3
    go_wp2_with fail
    refine C.mono ?_
    rintro e w3 ⟨rfl, hb3⟩
    have hb13 := hb12.trans (hb3.mono hb12.size)
    have hset3 := hset.below hb3
    have hbs := hb1.size
    clear hset C hb12 hb3 hb2
    go_wp2
    go_loopw [24] (fun kv wr => ∃ k : Nat, k ≤ l.length ∧ kv = .int .i64 k ∧ Below w.heap.size w wr ∧ SetW wr w1.heap.size v8 l.length W ∧ Hid (NoneTo l ms k)) (fun kv _ => l.length - (intOf kv).toNat)
    case atStart => exact ⟨0, Nat.zero_le _, rfl, hb13, hset3, fun j hj => absurd hj (Nat.not_lt_zero _)⟩
    case round =>
      clear hset3 hb13
      obtain ⟨k, hk, rfl, hb, hset, hj⟩ := hrel
      by_cases hlt : k < l.length
      · obtain ⟨b0, o0, p, rfl, hbb, hx, g0⟩ := h.int_ hlt
        have g1 := (hb.cell (p := ⟨b0, o0 + k, none⟩) hbb).trans g0
        have hpar := par_get hx
        have hp := rightP_at HR.out (i := (k : Int)) (by omega) (by omega)
        rw [hpar] at hp
        obtain ⟨hp0, hp1⟩ := hp
        have HP := Lib.hid hpar
        clear hx hpar
        have C5 := has50_any (i := k) hn hlt hset
        rw [HWW.out k hlt] at C5
        cases ho : obs ms k with
        | true =>
          rw [ho] at C5
          have HN := Lib.hid (hj.out.step (no1 ho))
          clear ho
          go_wp2_with fail
          refine C5.mono ?_
          rintro e w4 ⟨rfl, hb4⟩
          go_wp2
          go_roundw
          case rel => exact ⟨k + 1, by omega, by go_num, hb.trans (hb4.mono hb.size), hset.below hb4, HN⟩
          case measure => simp [intOf]; omega
        | false =>
          rw [ho] at C5
          have HO := Lib.hid ho
          clear ho
          go_wp2_with fail
          refine C5.mono ?_
          rintro e w4 ⟨rfl, hb4⟩
          have hb4w := hb.trans (hb4.mono hb.size)
          have hset4 := hset.below hb4
          clear hset C5
          by_cases hpn : p < 0
          · have HN := Lib.hid (hj.out.step (no2 (by rw [HP.out]; exact hpn)))
            go_wp2
            go_roundw
            case rel => exact ⟨k + 1, by omega, by go_num, hb4w, hset4, HN⟩
            case measure => simp [intOf]; omega
          · obtain ⟨q, hq⟩ : ∃ q : Nat, p = (q : Int) := ⟨p.toNat, by omega⟩
            subst hq
            have C6 := has50_any (i := q) hn (by omega) hset4
            rw [HWW.out q (by omega)] at C6
            cases hop : obs ms q with
            | false =>
              rw [hop] at C6
              have HN := Lib.hid (hj.out.step (no3 (by rw [HP.out]; exact hop)))
              clear hop
              go_wp2_with fail
              refine C6.mono ?_
              rintro e w5 ⟨rfl, hb5⟩
              go_wp2
              go_roundw
              case rel => exact ⟨k + 1, by omega, by go_num, hb4w.trans (hb5.mono hb4w.size), hset4.below hb5, HN⟩
              case measure => simp [intOf]; omega
            | true =>
              rw [hop] at C6
              have HOP := Lib.hid hop
              clear hop
              go_wp2_with fail
              refine C6.mono ?_
              rintro e w5 ⟨rfl, hb5⟩
              have hb5w := hb4w.trans (hb5.mono hb4w.size)
              have hset5 := hset4.below hb5
              clear C6 hset4
              go_wp2_with fail
              refine (target_any (i := (q : Int)) hn (h.to hb5w hb5w.size) hm (h2.to hb5w hb5w.size) HF.out).mono ?_
              rintro e w6 ⟨t, rfl, ht, hb6⟩
              have hb6w := hb5w.trans (hb6.mono hb5w.size)
              have hset6 := hset5.below hb6
              have HT : Hid (TargetIs l ms (par l k) t) := by rw [Hid, HP.out]; exact ht
              clear ht hset5
              by_cases hkt : (k : Int) = t
              · have HN := Lib.hid (hj.out.step (no4 HT.out (.inl hkt.symm)))
                subst hkt
                go_wp2
                go_roundw
                case rel => exact ⟨k + 1, by omega, by go_num, hb6w, hset6, HN⟩
                case measure => simp [intOf]; omega
              · obtain ⟨e1, e2⟩ := int_ne hkt
                have C7 := above_any (a := (k : Int)) (b := t) (by omega) (h.to hb6w hb6w.size)
                cases hab : above l k t with
                | true =>
                  rw [hab] at C7
                  have HN := Lib.hid (hj.out.step (no4 HT.out (.inr hab)))
                  clear hab
                  go_wp2_with fail
                  refine C7.mono ?_
                  rintro e w7 ⟨rfl, hb7⟩
                  go_wp2
                  go_roundw
                  case rel => exact ⟨k + 1, by omega, by go_num, hb6w.trans (hb7.mono hb6w.size), hset6.below hb7, HN⟩
                  case measure => simp [intOf]; omega
                | false =>
                  rw [hab] at C7
                  have HAb := Lib.hid hab
                  clear hab
                  go_wp2_with fail
                  refine C7.mono ?_
                  rintro e w7 ⟨rfl, hb7⟩
                  go_wp2
                  go_ret3
                  exact ⟨k, t, true, rfl, .some_ HR.out hlt ⟨by rw [HP.out]; omega, HO.out, by rw [HP.out]; exact HOP.out, HT.out, fun e => hkt e.symm, HAb.out⟩ hj.out, hb6w.trans (hb7.mono hb6w.size)⟩
      · have hkn : k = l.length := by omega
        subst hkn
        go_wp2
        go_ret3
        exact ⟨-1, -1, false, rfl, .none_ fun _ i hi => hj.out i hi, hb⟩

set_option maxRecDepth 100000 in
set_option maxHeartbeats 8000000 in
theorem rorphan_any {A A2 : Option Addr} {c m c2 : Nat} {l : List Int} {ms : List MV} {w : World} (hn : l.length ≤ 64) (h : Rd w w.heap.size 1 A l.length c (l.map (.int .i64))) (hm : m ≤ maxLen) (h2 : RdM w w.heap.size A2 m c2 ms) (hf : fewM ms = true) :
    Calls Try.prog 28 #[.slice A l.length c, .slice A2 m c2] w (Orp l ms w) := by
  have HF := Lib.hid hf; clear hf
  go_enter Try.func28, Try.ntmps28
  go_wp2
  go_loopw [7] (fun kv wr => ∃ k : Nat, k ≤ l.length ∧ kv = .int .i64 k ∧ Below w.heap.size w wr ∧ Hid (NoneTo l ms k)) (fun kv _ => l.length - (intOf kv).toNat)
  case atStart => exact ⟨0, Nat.zero_le _, rfl, Below.refl _ _, fun j hj => absurd hj (Nat.not_lt_zero _)⟩
  case round =>
    obtain ⟨k, hk, rfl, hb, hj⟩ := hrel
    by_cases hlt : k < l.length
    · have C := rgright_any (by omega) (h.to hb hb.size)
      cases hr : rightP l with
      | false =>
        rw [hr] at C
        have HR := Lib.hid hr; clear hr
        go_wp2_with fail
        refine C.mono ?_
        rintro e w3 ⟨rfl, hb3⟩
        go_wp2
        go_ret3
        exact ⟨-1, -1, false, rfl, .none_ (fun h => by rw [HR.out] at h; cases h), hb.trans (hb3.mono hb.size)⟩
      | true =>
        rw [hr] at C
        have HR := Lib.hid hr; clear hr
        obtain ⟨b0, o0, p, rfl, hbb, hx, g0⟩ := h.int_ hlt
        have hpar := par_get hx
        have hp := rightP_at HR.out (i := (k : Int)) (by omega) (by omega)
        rw [hpar] at hp
        obtain ⟨hp0, hp1⟩ := hp
        have HP := Lib.hid hpar
        clear hx hpar
        go_wp2_with fail
        refine C.mono ?_
        rintro e w3 ⟨rfl, hb3⟩
        have hb3w := hb.trans (hb3.mono hb.size)
        have g1 := (hb3w.cell (p := ⟨b0, o0 + k, none⟩) hbb).trans g0
        clear C
        by_cases hpn : p < 0
        · have HN := Lib.hid (hj.out.step (no2 (by rw [HP.out]; exact hpn)))
          go_wp2
          go_roundw
          case rel => exact ⟨k + 1, by omega, by go_num, hb3w, HN⟩
          case measure => simp [intOf]; omega
        · have C5 := robs_any (x := (k : Int)) hm (h2.to hb3w hb3w.size)
          cases ho : obs ms k with
          | true =>
            rw [ho] at C5
            have HN := Lib.hid (hj.out.step (no1 ho))
            clear ho
            go_wp2_with fail
            refine C5.mono ?_
            rintro e w4 ⟨rfl, hb4⟩
            go_wp2
            go_roundw
            case rel => exact ⟨k + 1, by omega, by go_num, hb3w.trans (hb4.mono hb3w.size), HN⟩
            case measure => simp [intOf]; omega
          | false =>
            rw [ho] at C5
            have HO := Lib.hid ho
            clear ho
            go_wp2_with fail
            refine C5.mono ?_
            rintro e w4 ⟨rfl, hb4⟩
            have hb4w := hb3w.trans (hb4.mono hb3w.size)
            have C6 := robs_any (x := p) hm (h2.to hb4w hb4w.size)
            clear C5
            cases hop : obs ms p with
            | false =>
              rw [hop] at C6
              have HN := Lib.hid (hj.out.step (no3 (by rw [HP.out]; exact hop)))
              clear hop
              go_wp2_with fail
              refine C6.mono ?_
              rintro e w5 ⟨rfl, hb5⟩
              go_wp2
              go_roundw
              case rel => exact ⟨k + 1, by omega, by go_num, hb4w.trans (hb5.mono hb4w.size), HN⟩
              case measure => simp [intOf]; omega
            | true =>
              rw [hop] at C6
              have HOP := Lib.hid hop
              clear hop
              go_wp2_with fail
              refine C6.mono ?_
              rintro e w5 ⟨rfl, hb5⟩
              have hb5w := hb4w.trans (hb5.mono hb4w.size)
              clear C6
              go_wp2_with fail
              refine (rtarget_any (i := p) hn (h.to hb5w hb5w.size) hm (h2.to hb5w hb5w.size) HF.out).mono ?_
              rintro e w6 ⟨t, rfl, ht, hb6⟩
              have hb6w := hb5w.trans (hb6.mono hb5w.size)
              have HT : Hid (TargetIs l ms (par l k) t) := by rw [Hid, HP.out]; exact ht
              clear ht
              by_cases hkt : t = (k : Int)
              · have HN := Lib.hid (hj.out.step (no4 HT.out (.inl hkt)))
                subst hkt
                go_wp2
                go_roundw
                case rel => exact ⟨k + 1, by omega, by go_num, hb6w, HN⟩
                case measure => simp [intOf]; omega
              · obtain ⟨e1, e2⟩ := int_ne hkt
                have C7 := rabove_any (a := (k : Int)) (b := t) (by omega) (h.to hb6w hb6w.size)
                cases hab : above l k t with
                | true =>
                  rw [hab] at C7
                  have HN := Lib.hid (hj.out.step (no4 HT.out (.inr hab)))
                  clear hab
                  go_wp2_with fail
                  refine C7.mono ?_
                  rintro e w7 ⟨rfl, hb7⟩
                  go_wp2
                  go_roundw
                  case rel => exact ⟨k + 1, by omega, by go_num, hb6w.trans (hb7.mono hb6w.size), HN⟩
                  case measure => simp [intOf]; omega
                | false =>
                  rw [hab] at C7
                  have HAb := Lib.hid hab
                  clear hab
                  go_wp2_with fail
                  refine C7.mono ?_
                  rintro e w7 ⟨rfl, hb7⟩
                  go_wp2
                  go_ret3
                  exact ⟨k, t, true, rfl, .some_ HR.out hlt ⟨by rw [HP.out]; omega, HO.out, by rw [HP.out]; exact HOP.out, HT.out, hkt, HAb.out⟩ hj.out, hb6w.trans (hb7.mono hb6w.size)⟩
    · have hkn : k = l.length := by omega
      subst hkn
      go_wp2
      go_ret3
      exact ⟨-1, -1, false, rfl, .none_ fun _ i hi => hj.out i hi, hb⟩
end Go.Proofs.Ytnkboccngialiaa
