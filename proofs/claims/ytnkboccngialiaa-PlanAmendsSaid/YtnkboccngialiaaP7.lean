/- Walks: the greatest of some; where one leads to. -/
import Derived.Test.YtnkboccngialiaaP6
import Derived.Test.YtnkboccngialiaaM14
namespace Go.Proofs.Ytnkboccngialiaa
open Go.RowKit

theorem last_of {l : List Int} {n : Nat} {t : Int} (hn : l.length = n + 1) (ht : l[n]? = some t) : l.getLast? = some t := by
  rw [List.getLast?_eq_getElem?, hn]; exact ht
set_option maxRecDepth 100000 in
set_option maxHeartbeats 4000000 in
theorem max_any {A : Option Addr} {c : Nat} {l : List Int} {w : World} (hn : l.length ≤ 1000000) (h0 : 0 < l.length) (hs : l.Pairwise (· < ·)) (h : Rd w w.heap.size 1 A l.length c (l.map (.int .i64))) :
    Calls Try.prog 55 #[.slice A l.length c] w fun e w' => ∃ t, e = .returned (.int .i64 t) ∧ l.getLast? = some t ∧ Below w.heap.size w w' := by
  obtain ⟨b0, o0, x0, rfl, hbb, hx0, g0⟩ := h.int_ h0
  rw [Nat.add_zero] at g0
  have HX0 := Lib.hid hx0; clear hx0
  have HS := Lib.hid hs; clear hs
  go_enter Try.func55, Try.ntmps55
  go_wp2
  go_loopw [3, 4] (fun mv kv wr => ∃ (k : Nat) (t : Int), 1 ≤ k ∧ k ≤ l.length ∧ kv = .int .i64 k ∧ mv = .int .i64 t ∧ Hid (l[k-1]? = some t) ∧ Below w.heap.size w wr) (fun _ kv _ => l.length - (intOf kv).toNat)
  case atStart => exact ⟨1, x0, Nat.le_refl _, h0, rfl, rfl, HX0.out, Below.refl _ _⟩
  case round =>
    obtain ⟨k, t, hk1, hk, rfl, rfl, ht, hb⟩ := hrel
    by_cases hlt : k < l.length
    · obtain ⟨b1, o1, x, e, _, hx, gx⟩ := h.int_ hlt
      cases e
      have gx' := (hb.cell (p := ⟨b0, o0 + k, none⟩) hbb).trans gx
      have hlt2 : t < x := by
        have h1 := List.getElem?_eq_some_iff.1 ht.out
        have h2 := List.getElem?_eq_some_iff.1 hx
        have := List.pairwise_iff_getElem.1 HS.out (k - 1) k h1.1 h2.1 (by omega)
        rw [h1.2, h2.2] at this
        exact this
      have hmax : max t x = x := by omega
      have HX := Lib.hid hx; clear hx
      go_wp2
      go_roundw
      case rel => exact ⟨k + 1, x, by omega, by omega, by go_num, rfl, HX.out, hb⟩
      case measure => simp [intOf]; omega
    · have hkn : k = l.length := by omega
      go_wp2
      go_ret
      refine ⟨t, rfl, last_of (n := l.length - 1) (by omega) ?_, hb⟩
      have := ht.out
      rwa [hkn] at this

/-- What Target hands back. -/
def Tgt (l : List Int) (ms : List MV) (i : Int) (w : World) (e : Ending) (w' : World) : Prop := ∃ t, e = .returned (.int .i64 t) ∧ TargetIs l ms i t ∧ Below w.heap.size w w'
theorem par_ge {l : List Int} {i p : Int} (hr : rightP l = true) (h0 : 0 ≤ i) (h1 : i < l.length) (hx : l[i.toNat]? = some p) : par l i = p ∧ -1 ≤ p ∧ p < i := by
  have hpar := par_get hx
  rw [Int.toNat_of_nonneg h0] at hpar
  have := rightP_at hr h0 h1
  rw [hpar] at this
  exact ⟨hpar, this⟩

set_option maxRecDepth 100000 in
set_option maxHeartbeats 8000000 in
theorem target_any {A A2 : Option Addr} {c m c2 : Nat} {l : List Int} {ms : List MV} {i : Int} {w : World} (hn : l.length ≤ 64) (h : Rd w w.heap.size 1 A l.length c (l.map (.int .i64))) (hm : m ≤ maxLen) (h2 : RdM w w.heap.size A2 m c2 ms) (hf : fewM ms = true) :
    Calls Try.prog 31 #[.slice A l.length c, .slice A2 m c2, .int .i64 i] w (Tgt l ms i w) := by
  have C := gright_any (by omega) h
  have HF := Lib.hid hf; clear hf
  cases hr : rightP l with
  | false =>
    rw [hr] at C
    have HR := Lib.hid hr; clear hr
    go_enter Try.func31, Try.ntmps31
    go_wp2_with fail
    refine C.mono ?_
    rintro e w1 ⟨rfl, hb1⟩
    go_wp2
    go_ret
    exact ⟨-1, rfl, .out (.inl HR.out), hb1⟩
  | true =>
    rw [hr] at C
    have HR := Lib.hid hr; clear hr
    go_enter Try.func31, Try.ntmps31
    go_wp2_with fail
    refine C.mono ?_
    rintro e w1 ⟨rfl, hb1⟩
    go_wp2
    go_loopw [2] (fun iv wr => ∃ i' : Int, iv = .int .i64 i' ∧ Below w.heap.size w wr ∧ Hid (∀ t, TargetIs l ms i' t → TargetIs l ms i t)) (fun iv _ => (intOf iv + 1).toNat)
    case atStart => exact ⟨i, rfl, hb1, fun t ht => ht⟩
    case round =>
      obtain ⟨i', rfl, hb, hj⟩ := hrel
      by_cases c1 : 0 ≤ i'
      · by_cases c2 : i' < (l.length : Int)
        · have hI : I64 i' := by unfold I64; omega
          obtain ⟨b0, o0, p, rfl, hbb, hx, g0⟩ := h.int_ (k := i'.toNat) (by omega)
          obtain ⟨hpar, hp0, hp1⟩ := par_ge HR.out c1 c2 hx
          have HP := Lib.hid hpar
          clear hx hpar
          have C14 := obsolete_any (x := i') hm (h2.to hb hb.size)
          cases ho : obs ms i' with
          | false =>
            rw [ho] at C14
            have HT := Lib.hid (hj.out i' (.here HR.out c1 c2 (FinalIs.self ho) rfl))
            go_wp2_with fail
            refine C14.mono ?_
            rintro e w3 ⟨rfl, hb3⟩
            go_wp2
            go_ret
            exact ⟨i', rfl, HT.out, hb.trans (hb3.mono hb.size)⟩
          | true =>
            rw [ho] at C14
            go_wp2_with fail
            refine C14.mono ?_
            rintro e w3 ⟨rfl, hb3⟩
            have hb3w := hb.trans (hb3.mono hb.size)
            go_wp2_with fail
            refine (final_any (i := i') hm (h2.to hb3w hb3w.size) HF.out hI).mono ?_
            rintro e w4 ⟨A4, c4, f, rfl, hr4, hb4, hf4⟩
            have hb4w := hb3w.trans (hb4.mono hb3w.size)
            have hfl := final_len hf4 HF.out
            have g1 := (hb4w.cell (p := ⟨b0, o0 + i'.toNat, none⟩) hbb).trans g0
            by_cases hfe : 0 < f.length
            · have C55 := max_any (by omega) hfe hf4.sorted hr4
              go_wp2_with fail
              refine C55.mono ?_
              rintro e w5 ⟨t, rfl, ht, hb5⟩
              have HT := Lib.hid (hj.out t (.here HR.out c1 c2 hf4 ht))
              go_wp2
              go_ret
              exact ⟨t, rfl, HT.out, hb4w.trans (hb5.mono hb4w.size)⟩
            · have hnil : f = [] := List.eq_nil_of_length_eq_zero (by omega)
              subst hnil
              have HT : Hid (∀ t, TargetIs l ms p t → TargetIs l ms i t) := fun t ht => hj.out t (.up HR.out c1 c2 hf4 (by rw [HP.out]; exact ht))
              go_wp2
              go_roundw
              case rel => exact ⟨p, rfl, hb4w, HT⟩
              case measure => simp [intOf]; omega
        · have HT := Lib.hid (hj.out (-1) (.out (.inr (.inr (by omega)))))
          go_wp2
          go_ret
          exact ⟨-1, rfl, HT.out, hb⟩
      · have HT := Lib.hid (hj.out (-1) (.out (.inr (.inl (by omega)))))
        go_wp2
        go_ret
        exact ⟨-1, rfl, HT.out, hb⟩

set_option maxRecDepth 100000 in
set_option maxHeartbeats 8000000 in
theorem rtarget_any {A A2 : Option Addr} {c m c2 : Nat} {l : List Int} {ms : List MV} {i : Int} {w : World} (hn : l.length ≤ 64) (h : Rd w w.heap.size 1 A l.length c (l.map (.int .i64))) (hm : m ≤ maxLen) (h2 : RdM w w.heap.size A2 m c2 ms) (hf : fewM ms = true) :
    Calls Try.prog 32 #[.slice A l.length c, .slice A2 m c2, .int .i64 i] w (Tgt l ms i w) := by
  have HF := Lib.hid hf; clear hf
  go_enter Try.func32, Try.ntmps32
  go_wp2
  go_loopw [2] (fun iv wr => ∃ i' : Int, iv = .int .i64 i' ∧ Below w.heap.size w wr ∧ Hid (∀ t, TargetIs l ms i' t → TargetIs l ms i t)) (fun iv _ => (intOf iv + 1).toNat)
  case atStart => exact ⟨i, rfl, Below.refl _ _, fun t ht => ht⟩
  case round =>
    obtain ⟨i', rfl, hb, hj⟩ := hrel
    by_cases c1 : 0 ≤ i'
    · by_cases c2 : i' < (l.length : Int)
      · have C := rgright_any (by omega) (h.to hb hb.size)
        cases hr : rightP l with
        | false =>
          rw [hr] at C
          have HT := Lib.hid (hj.out (-1) (.out (.inl hr)))
          clear hr
          go_wp2_with fail
          refine C.mono ?_
          rintro e w1 ⟨rfl, hb1⟩
          go_wp2
          go_ret
          exact ⟨-1, rfl, HT.out, hb.trans (hb1.mono hb.size)⟩
        | true =>
          rw [hr] at C
          have HR := Lib.hid hr; clear hr
          obtain ⟨b0, o0, p, rfl, hbb, hx, g0⟩ := h.int_ (k := i'.toNat) (by omega)
          obtain ⟨hpar, hp0, hp1⟩ := par_ge HR.out c1 c2 hx
          have HP := Lib.hid hpar
          clear hx hpar
          go_wp2_with fail
          refine C.mono ?_
          rintro e w1 ⟨rfl, hb1⟩
          have hb1w := hb.trans (hb1.mono hb.size)
          go_wp2_with fail
          refine (rfinal_any (i := i') hm (h2.to hb1w hb1w.size) HF.out).mono ?_
          rintro e w4 ⟨A4, c4, f, rfl, hr4, hb4, hf4⟩
          have hb4w := hb1w.trans (hb4.mono hb1w.size)
          have hfl := final_len hf4 HF.out
          have g1 := (hb4w.cell (p := ⟨b0, o0 + i'.toNat, none⟩) hbb).trans g0
          by_cases hfe : 0 < f.length
          · obtain ⟨b4, o4, t, rfl, hb4', ht, t0⟩ := hr4.int_ (k := f.length - 1) (by omega)
            have HT := Lib.hid (hj.out t (.here HR.out c1 c2 hf4 (last_of (n := f.length - 1) (by omega) ht)))
            have e1 : ((f.length : Int) - 1).toNat = f.length - 1 := by omega
            clear ht
            go_wp2
            go_ret
            exact ⟨t, rfl, HT.out, hb4w⟩
          · have hnil : f = [] := List.eq_nil_of_length_eq_zero (by omega)
            subst hnil
            have HT : Hid (∀ t, TargetIs l ms p t → TargetIs l ms i t) := fun t ht => hj.out t (.up HR.out c1 c2 hf4 (by rw [HP.out]; exact ht))
            go_wp2
            go_roundw
            case rel => exact ⟨p, rfl, hb4w, HT⟩
            case measure => simp [intOf]; omega
      · have HT := Lib.hid (hj.out (-1) (.out (.inr (.inr (by omega)))))
        go_wp2
        go_ret
        exact ⟨-1, rfl, HT.out, hb⟩
    · have HT := Lib.hid (hj.out (-1) (.out (.inr (.inl (by omega)))))
      go_wp2
      go_ret
      exact ⟨-1, rfl, HT.out, hb⟩
end Go.Proofs.Ytnkboccngialiaa
