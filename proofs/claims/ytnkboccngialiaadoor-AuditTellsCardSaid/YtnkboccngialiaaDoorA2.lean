/- Walks: nothing; whether bookmarks are at commits that are there. -/
import Derived.Test.YtnkboccngialiaaDoorA1
namespace Go.Proofs.YtnkboccngialiaaDoor
open Go.RowKit

/-- The set of numbers behind a captured variable. -/
def SetAt (w : World) (g b n : Nat) (D : DataW Value) (L : List Int) : Prop := w.cell? ⟨g, 0, none⟩ = some (.map (some b)) ∧ g < w.heap.size ∧ b < w.heap.size ∧ SetN w b n D L
theorem SetAt.below {w w' : World} {g b n : Nat} {D : DataW Value} {L : List Int} (h : SetAt w g b n D L) (hb : Below w.heap.size w w') : SetAt w' g b n D L :=
  ⟨(hb.cell (p := ⟨g, 0, none⟩) h.2.1).trans h.1, Nat.lt_of_lt_of_le h.2.1 hb.size, Nat.lt_of_lt_of_le h.2.2.1 hb.size, h.2.2.2.below hb⟩

set_option maxRecDepth 100000 in
set_option maxHeartbeats 4000000 in
theorem markOut_any {x : NV} {g b n : Nat} {D : DataW Value} {L : List Int} {w : World} (h : SetAt w g b n D L) (hx : I64 x.commit) :
    Calls Tryd.prog 35 #[.agg #[.string x.name, .int .i64 x.commit], .pointer (some ⟨g, 0, none⟩)] w (BoolBelow (!decide (x.commit ∈ L)) w) := by
  have hb0 : Below w.heap.size w (w.alloc (.cells #[.string x.name, .int .i64 x.commit] 81)) := (Below.refl _ _).alloc (Nat.le_refl _) _
  have h1 := h.below hb0
  have hc := h1.1
  have hl := h1.2.2.2.look hx
  have hk := run_keyN (w.alloc (.cells #[.string x.name, .int .i64 x.commit] 81)) x.commit
  cases hd : decide (x.commit ∈ L) with
  | true =>
    rw [hd] at hl
    clear h h1 hd
    go_enter Tryd.func35, Tryd.ntmps35
    go_wp2
    go_ret
    exact ⟨rfl, hb0⟩
  | false =>
    rw [hd] at hl
    clear h h1 hd
    go_enter Tryd.func35, Tryd.ntmps35
    go_wp2
    go_ret
    exact ⟨rfl, hb0⟩

set_option maxRecDepth 100000 in
set_option maxHeartbeats 4000000 in
theorem marksIdx_any {A : Option Addr} {n c : Nat} {l : List NV} {g b m : Nat} {D : DataW Value} {L : List Int} {w : World} (hn : n ≤ 17592186044416) (hr : Rd w w.heap.size 2 A n c (l.flatMap NV.cells)) (hl : l.length = n)
    (hI : ∀ x ∈ l, I64 x.commit) (h : SetAt w g b m D L) :
    Calls Tryd.prog 61 #[.slice A n c, .func (.func 35) #[] #[.pointer (some ⟨g, 0, none⟩)]] w
      fun e w' => ∃ k : Int, e = .returned (.int .i64 k) ∧ (decide (0 ≤ k) = false → MarksIn l L l.length) ∧ (decide (0 ≤ k) = true → ∃ (j : Nat) (x : NV), l[j]? = some x ∧ ¬ x.commit ∈ L) ∧ Below w.heap.size w w' := by
  have HL := Lib.hid hl
  go_enter Tryd.func61, Tryd.ntmps61
  go_wp2
  go_loopw [5, 8] (fun _ i wr => ∃ k : Nat, k ≤ n ∧ i = .int .i64 k ∧ Below w.heap.size w wr ∧ Hid (MarksIn l L k)) (fun _ i _ => n - (intOf i).toNat)
  case atStart => exact ⟨0, Nat.zero_le _, rfl, Below.refl _ _, MarksIn.zero l L⟩
  case round =>
    obtain ⟨k, hk, rfl, hb, hj⟩ := hrel
    by_cases hlt : k < n
    · obtain ⟨b0, o0, u, rfl, hbb, hx, hm, hc⟩ := T.rd_flat NV.cells_len (by omega) hr HL.out hlt
      have h0 := (hb.cell (p := ⟨b0, o0 + k * 2, none⟩) (by show b0 < _; omega)).trans (hc 0 _ rfl)
      have h1 := (hb.cell (p := ⟨b0, o0 + k * 2 + 1, none⟩) (by show b0 < _; omega)).trans (hc 1 _ rfl)
      have HX := Lib.hid hx
      have C := markOut_any (h.below hb) (hI u hm)
      clear hx hc
      cases hq : decide (u.commit ∈ L) with
      | true =>
        rw [hq] at C
        have HQ := Lib.hid (of_decide_eq_true hq)
        clear hq
        go_wp2_with fail
        refine C.mono ?_
        rintro e w1 ⟨rfl, hb1⟩
        have hbd := hb.trans (hb1.mono hb.size)
        clear C
        go_wp2
        go_roundw
        case rel => exact ⟨k + 1, by omega, by go_num, hbd, hj.out.next HX.out HQ.out⟩
        case measure => simp [intOf]; omega
      | false =>
        rw [hq] at C
        have HQ := Lib.hid (of_decide_eq_false hq)
        clear hq
        go_wp2_with fail
        refine C.mono ?_
        rintro e w1 ⟨rfl, hb1⟩
        have hbd := hb.trans (hb1.mono hb.size)
        clear C
        go_wp2
        go_ret
        exact ⟨k, rfl, fun e => by simp at e, fun _ => ⟨k, u, HX.out, HQ.out⟩, hbd⟩
    · have hkn : k = n := by omega
      subst hkn
      have HO := Lib.hid (show MarksIn l L l.length by rw [HL.out]; exact hj.out)
      go_wp2
      go_ret
      exact ⟨-1, rfl, fun _ => HO.out, fun e => by simp at e, hb⟩

set_option maxHeartbeats 1000000 in
theorem marksOut_any {A : Option Addr} {n c : Nat} {l : List NV} {g b m : Nat} {D : DataW Value} {L : List Int} {w : World} (hn : n ≤ 17592186044416) (hr : Rd w w.heap.size 2 A n c (l.flatMap NV.cells)) (hl : l.length = n)
    (hI : ∀ x ∈ l, I64 x.commit) (h : SetAt w g b m D L) :
    Calls Tryd.prog 34 #[.slice A n c, .func (.func 35) #[] #[.pointer (some ⟨g, 0, none⟩)]] w
      fun e w' => ∃ o : Bool, e = .returned (.bool o) ∧ (o = false → MarksIn l L l.length) ∧ (o = true → ∃ (j : Nat) (x : NV), l[j]? = some x ∧ ¬ x.commit ∈ L) ∧ Below w.heap.size w w' := by
  have C := marksIdx_any hn hr hl hI h
  go_enter Tryd.func34, Tryd.ntmps34
  go_wp2_with fail
  refine C.mono ?_
  rintro e w1 ⟨k, rfl, h1, h2, hb1⟩
  have H1 := Lib.hid h1
  have H2 := Lib.hid h2
  clear h1 h2
  go_wp2
  go_ret
  exact ⟨decide (0 ≤ k), rfl, H1.out, H2.out, hb1⟩

set_option maxRecDepth 100000 in
set_option maxHeartbeats 4000000 in
theorem nothing_any {p : PV} {w : World} (hs : p.settled.length ≤ 17592186044416) (hk : p.clashes.length ≤ 17592186044416) :
    Calls Tryd.prog 37 #[.agg #[.bool p.on, .bool p.restack, .int .i64 p.source, .int .i64 p.dest, .slice p.sA p.settled.length p.sc, .int .i64 p.commit, .slice p.kA p.clashes.length p.kc]] w (BoolBelow (nothingB p) w) := by
  obtain ⟨on, re, so, de, sA, sc, st, co, kA, kc, cl⟩ := p
  simp only at hs hk
  simp only [nothingB]
  have hb0 : ∀ o, Below w.heap.size w (w.alloc o) := fun o => (Below.refl _ _).alloc (Nat.le_refl _) _
  obtain ⟨n, hn⟩ : ∃ n, n = st.length := ⟨_, rfl⟩
  obtain ⟨m, hm⟩ : ∃ n, n = cl.length := ⟨_, rfl⟩
  have hs' : n ≤ 17592186044416 := by rw [hn]; exact hs
  have hk' : m ≤ 17592186044416 := by rw [hm]; exact hk
  rw [← hn, ← hm]
  clear hn hm hs hk
  by_cases h0 : re = true
  · subst h0
    go_enter Tryd.func37, Tryd.ntmps37
    go_wp2
    go_ret
    exact ⟨ret_bool (by simp), hb0 _⟩
  · obtain rfl : re = false := by simpa using h0
    by_cases h1 : so = 0
    case neg =>
      have e1 := int_ne h1
      have HO := Lib.hid h1
      clear h1
      go_enter Tryd.func37, Tryd.ntmps37
      go_wp2
      go_ret
      exact ⟨ret_bool (by simp [HO.out]), hb0 _⟩
    subst h1
    by_cases h2 : de = 0
    case neg =>
      have e1 := int_ne h2
      have HO := Lib.hid h2
      clear h2
      go_enter Tryd.func37, Tryd.ntmps37
      go_wp2
      go_ret
      exact ⟨ret_bool (by simp [HO.out]), hb0 _⟩
    subst h2
    by_cases h3 : co = 0
    case neg =>
      have e1 := int_ne h3
      have HO := Lib.hid h3
      clear h3
      go_enter Tryd.func37, Tryd.ntmps37
      go_wp2
      go_ret
      exact ⟨ret_bool (by simp [HO.out]), hb0 _⟩
    subst h3
    by_cases h4 : (n : Int) + m = 0
    case neg =>
      have e1 := int_ne h4
      have HO := Lib.hid (show ¬ (n = 0 ∧ m = 0) by omega)
      clear h4
      go_enter Tryd.func37, Tryd.ntmps37
      go_wp2
      go_ret
      refine ⟨ret_bool ?_, hb0 _⟩
      have h5 := HO.out
      have h6 : (decide (n = 0) && decide (m = 0)) = false := by
        cases h7 : decide (n = 0) <;> cases h8 : decide (m = 0) <;> simp_all
      have h9 : (!false && decide True && decide True && decide True && decide (n = 0) && decide (m = 0)) = false := by
        rw [Bool.and_assoc, h6, Bool.and_false]
      rw [h9]
    obtain ⟨rfl, rfl⟩ : n = 0 ∧ m = 0 := by omega
    clear h4
    go_enter Tryd.func37, Tryd.ntmps37
    go_wp2
    go_ret
    exact ⟨ret_bool (by simp), hb0 _⟩
end Go.Proofs.YtnkboccngialiaaDoor
