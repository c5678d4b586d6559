/- Lists of api.Seen: held against each other. -/
import Derived.Test.YtnkboccngialiaaDoorV0
namespace Go.Proofs.YtnkboccngialiaaDoor
open Go.RowKit

set_option maxRecDepth 100000 in
set_option maxHeartbeats 4000000 in
theorem sameE_any {G : FuncId} {A B : Option Addr} {n ca m cb : Nat} {xs ys : List EV} {w : World} (eq : EV → EV → Bool) (hn : n ≤ 17592186044416) (hm : m ≤ 17592186044416)
    (ha : Rd w w.heap.size 5 A n ca (xs.flatMap EV.cells)) (hb : Rd w w.heap.size 5 B m cb (ys.flatMap EV.cells)) (hxl : xs.length = n) (hyl : ys.length = m) (hG : isGo Tryd.prog G = true)
    (HC : ∀ x ∈ xs, ∀ y ∈ ys, ∀ v, Below w.heap.size w v → Calls Tryd.prog G #[.agg #[.int .i64 x.num, .int .i64 x.parent, .string x.msg, .slice x.A x.files.length x.c, .bool x.obs], .agg #[.int .i64 y.num, .int .i64 y.parent, .string y.msg, .slice y.A y.files.length y.c, .bool y.obs]] v (BoolBelow (eq x y) v)) :
    Calls Tryd.prog 45 #[.slice A n ca, .slice B m cb, .func (.func G) #[] #[]] w (BoolBelow (lall2 eq xs ys) w) := by
  have HX := Lib.hid hxl
  have HY := Lib.hid hyl
  by_cases h : n = m
  · subst h
    go_enter Tryd.func45, Tryd.ntmps45
    go_wp2
    go_loopw [7] (fun i wr => ∃ k : Nat, k ≤ n ∧ i = .int .i64 k ∧ Below w.heap.size w wr ∧ Hid (EqTo eq xs ys k)) (fun i _ => n - (intOf i).toNat)
    case atStart => exact ⟨0, Nat.zero_le _, rfl, Below.refl _ _, fun j _ _ hj => absurd hj (Nat.not_lt_zero _)⟩
    case round =>
      obtain ⟨k, hk, rfl, hbw, hj⟩ := hrel
      by_cases hlt : k < n
      · obtain ⟨b0, o0, u, eA, hb0, hx, hxm, p⟩ := T.rd_flat EV.cells_len (by omega) ha HX.out hlt
        obtain ⟨b1, o1, v, eB, hb1, hy, hym, r⟩ := T.rd_flat EV.cells_len (by omega) hb HY.out hlt
        cases eA
        cases eB
        have HU := Lib.hid hx
        have HV := Lib.hid hy
        clear hx hy
        have hbs := hbw.size
        have C := HC u hxm v hym
        go_wp2
        refine wp_region_q (fun w' => Below w.heap.size w w') (qe [9] 11) mixed (by kernel_rfl) hbw.drew ?_
        intro T M Q hT hT' hM hQ
        have mp : ∀ j v, (EV.cells u)[j]? = some v → M ⟨b0, o0 + k * 5 + j, none⟩ = some v := fun j v hv => hM _ _ fun w' hw => (hw.cell (p := ⟨b0, o0 + k * 5 + j, none⟩) (by show b0 < _; omega)).trans (p j v hv)
        have mr : ∀ j x, (EV.cells v)[j]? = some x → M ⟨b1, o1 + k * 5 + j, none⟩ = some x := fun j v hv => hM _ _ fun w' hw => (hw.cell (p := ⟨b1, o1 + k * 5 + j, none⟩) (by show b1 < _; omega)).trans (r j v hv)
        have m0 : M ⟨b0, o0 + k * 5, none⟩ = some (.int .i64 u.num) := mp 0 _ rfl
        have q0 : M ⟨b1, o1 + k * 5, none⟩ = some (.int .i64 v.num) := mr 0 _ rfl
        have m1 : M ⟨b0, o0 + k * 5 + 1, none⟩ = some (.int .i64 u.parent) := mp 1 _ rfl
        have q1 : M ⟨b1, o1 + k * 5 + 1, none⟩ = some (.int .i64 v.parent) := mr 1 _ rfl
        have m2 : M ⟨b0, o0 + k * 5 + 2, none⟩ = some (.string u.msg) := mp 2 _ rfl
        have q2 : M ⟨b1, o1 + k * 5 + 2, none⟩ = some (.string v.msg) := mr 2 _ rfl
        have m3 : M ⟨b0, o0 + k * 5 + 3, none⟩ = some (.slice u.A u.files.length u.c) := mp 3 _ rfl
        have q3 : M ⟨b1, o1 + k * 5 + 3, none⟩ = some (.slice v.A v.files.length v.c) := mr 3 _ rfl
        have m4 : M ⟨b0, o0 + k * 5 + 4, none⟩ = some (.bool u.obs) := mp 4 _ rfl
        have q4 : M ⟨b1, o1 + k * 5 + 4, none⟩ = some (.bool v.obs) := mr 4 _ rfl
        clear hM mp mr p r
        simp only [qcmp, Nat.reduceBEq]
        simp (maxSteps := 5000000) only [↓qpre, qpost, qfacts, qnorm, m0, q0, m1, q1, m2, q2, m3, q3, m4, q4]
        refine ⟨⟨by omega, by omega⟩, ⟨by omega, by omega⟩, eff_call hG (C _ hbw.drew) rfl rfl ?_⟩
        rintro e w1 ⟨rfl, hb1⟩
        have hbd : Below w.heap.size w w1 := hbw.drew.trans (hb1.mono hbs)
        refine ⟨_, rfl, hT _ hbd, ?_⟩
        simp (maxSteps := 5000000) only [↓qpre, qpost, qnorm]
        refine hQ _ _ ?_
        clear hQ hT hT' m0 q0 m1 q1 m2 q2 m3 q3 m4 q4 C
        cases he : eq u v with
        | true =>
          have HO := Lib.hid (hj.out.next HU.out HV.out he)
          clear he
          go_wp2
          go_roundw
          case rel => exact ⟨k + 1, by omega, by go_num, hbd, HO.out⟩
          case measure => simp [intOf]; omega
        | false =>
          have HO := Lib.hid (lall2_bad HU.out HV.out he)
          clear he
          go_wp2
          go_ret
          exact ⟨ret_bool HO.out.symm, hbd⟩
      · obtain rfl : k = n := by omega
        have HO := Lib.hid (hj.out.done HX.out HY.out)
        go_wp2
        go_ret
        exact ⟨ret_bool HO.out.symm, hbw⟩
  · obtain ⟨h1, h2⟩ := int_ne (u := (n : Int)) (v := (m : Int)) (by omega)
    have HO := Lib.hid (lall2_len (eq := eq) (xs := xs) (ys := ys) (by rw [HX.out, HY.out]; exact h))
    go_enter Tryd.func45, Tryd.ntmps45
    go_wp2
    go_ret
    exact ⟨ret_bool HO.out.symm, Below.refl _ _⟩
set_option maxRecDepth 100000 in
set_option maxHeartbeats 4000000 in
theorem equalfE_any {A B : Option Addr} {n ca m cb : Nat} {xs ys : List EV} {w : World} (eq : EV → EV → Bool) (hn : n ≤ 17592186044416) (hm : m ≤ 17592186044416)
    (ha : Rd w w.heap.size 5 A n ca (xs.flatMap EV.cells)) (hb : Rd w w.heap.size 5 B m cb (ys.flatMap EV.cells)) (hxl : xs.length = n) (hyl : ys.length = m)
    (HC : ∀ x ∈ xs, ∀ y ∈ ys, ∀ v, Below w.heap.size w v → Calls Tryd.prog 42 #[.agg #[.int .i64 x.num, .int .i64 x.parent, .string x.msg, .slice x.A x.files.length x.c, .bool x.obs], .agg #[.int .i64 y.num, .int .i64 y.parent, .string y.msg, .slice y.A y.files.length y.c, .bool y.obs]] v (BoolBelow (eq x y) v)) :
    Calls Tryd.prog 41 #[.slice A n ca, .slice B m cb, .func (.func 42) #[] #[]] w (BoolBelow (lall2 eq xs ys) w) := by
  have HX := Lib.hid hxl
  have HY := Lib.hid hyl
  by_cases h : n = m
  · subst h
    go_enter Tryd.func41, Tryd.ntmps41
    go_wp2
    go_loopw [17] (fun i wr => ∃ k : Nat, k ≤ n ∧ i = .int .i64 k ∧ Below w.heap.size w wr ∧ Hid (EqTo eq xs ys k)) (fun i _ => n - (intOf i).toNat)
    case atStart => exact ⟨0, Nat.zero_le _, rfl, Below.refl _ _, fun j _ _ hj => absurd hj (Nat.not_lt_zero _)⟩
    case round =>
      obtain ⟨k, hk, rfl, hbw, hj⟩ := hrel
      by_cases hlt : k < n
      · obtain ⟨b0, o0, u, eA, hb0, hx, hxm, p⟩ := T.rd_flat EV.cells_len (by omega) ha HX.out hlt
        obtain ⟨b1, o1, v, eB, hb1, hy, hym, r⟩ := T.rd_flat EV.cells_len (by omega) hb HY.out hlt
        cases eA
        cases eB
        have HU := Lib.hid hx
        have HV := Lib.hid hy
        clear hx hy
        have hbs := hbw.size
        have C := HC u hxm v hym
        have mp : ∀ j v, (EV.cells u)[j]? = some v → wr.cell? ⟨b0, o0 + k * 5 + j, none⟩ = some v := fun j v hv => (hbw.cell (p := ⟨b0, o0 + k * 5 + j, none⟩) (by show b0 < _; omega)).trans (p j v hv)
        have hal : Below wr.heap.size wr (wr.alloc (.cells #[.int .i64 u.num, .int .i64 u.parent, .string u.msg, .slice u.A u.files.length u.c, .bool u.obs] 74)) := (Below.refl _ _).alloc (Nat.le_refl _) _
        have hal2 : Below w.heap.size w ((wr.alloc (.cells #[.int .i64 u.num, .int .i64 u.parent, .string u.msg, .slice u.A u.files.length u.c, .bool u.obs] 74)).alloc (.cells #[.int .i64 v.num, .int .i64 v.parent, .string v.msg, .slice v.A v.files.length v.c, .bool v.obs] 74)) := (hbw.alloc hbs _).alloc (by simp; omega) _
        have mr : ∀ j x, (EV.cells v)[j]? = some x → (wr.alloc (.cells #[.int .i64 u.num, .int .i64 u.parent, .string u.msg, .slice u.A u.files.length u.c, .bool u.obs] 74)).cell? ⟨b1, o1 + k * 5 + j, none⟩ = some x := fun j x hv => (hal.cell (p := ⟨b1, o1 + k * 5 + j, none⟩) (by show b1 < _; omega)).trans ((hbw.cell (p := ⟨b1, o1 + k * 5 + j, none⟩) (by show b1 < _; omega)).trans (r j x hv))
        have m0 : wr.cell? ⟨b0, o0 + k * 5, none⟩ = some (.int .i64 u.num) := mp 0 _ rfl
        have q0 : (wr.alloc (.cells #[.int .i64 u.num, .int .i64 u.parent, .string u.msg, .slice u.A u.files.length u.c, .bool u.obs] 74)).cell? ⟨b1, o1 + k * 5, none⟩ = some (.int .i64 v.num) := mr 0 _ rfl
        have m1 : wr.cell? ⟨b0, o0 + k * 5 + 1, none⟩ = some (.int .i64 u.parent) := mp 1 _ rfl
        have q1 : (wr.alloc (.cells #[.int .i64 u.num, .int .i64 u.parent, .string u.msg, .slice u.A u.files.length u.c, .bool u.obs] 74)).cell? ⟨b1, o1 + k * 5 + 1, none⟩ = some (.int .i64 v.parent) := mr 1 _ rfl
        have m2 : wr.cell? ⟨b0, o0 + k * 5 + 2, none⟩ = some (.string u.msg) := mp 2 _ rfl
        have q2 : (wr.alloc (.cells #[.int .i64 u.num, .int .i64 u.parent, .string u.msg, .slice u.A u.files.length u.c, .bool u.obs] 74)).cell? ⟨b1, o1 + k * 5 + 2, none⟩ = some (.string v.msg) := mr 2 _ rfl
        have m3 : wr.cell? ⟨b0, o0 + k * 5 + 3, none⟩ = some (.slice u.A u.files.length u.c) := mp 3 _ rfl
        have q3 : (wr.alloc (.cells #[.int .i64 u.num, .int .i64 u.parent, .string u.msg, .slice u.A u.files.length u.c, .bool u.obs] 74)).cell? ⟨b1, o1 + k * 5 + 3, none⟩ = some (.slice v.A v.files.length v.c) := mr 3 _ rfl
        have m4 : wr.cell? ⟨b0, o0 + k * 5 + 4, none⟩ = some (.bool u.obs) := mp 4 _ rfl
        have q4 : (wr.alloc (.cells #[.int .i64 u.num, .int .i64 u.parent, .string u.msg, .slice u.A u.files.length u.c, .bool u.obs] 74)).cell? ⟨b1, o1 + k * 5 + 4, none⟩ = some (.bool v.obs) := mr 4 _ rfl
        clear mp mr p r hal
        go_wp2_with fail
        refine (C _ hal2).mono ?_
        rintro e w1 ⟨rfl, hb1⟩
        have hbd : Below w.heap.size w w1 := hal2.trans (hb1.mono hal2.size)
        clear m0 q0 m1 q1 m2 q2 m3 q3 m4 q4 C hal2
        cases he : eq u v with
        | true =>
          have HO := Lib.hid (hj.out.next HU.out HV.out he)
          clear he
          go_wp2
          go_roundw
          case rel => exact ⟨k + 1, by omega, by go_num, hbd, HO.out⟩
          case measure => simp [intOf]; omega
        | false =>
          have HO := Lib.hid (lall2_bad HU.out HV.out he)
          clear he
          go_wp2
          go_ret
          exact ⟨ret_bool HO.out.symm, hbd⟩
      · obtain rfl : k = n := by omega
        have HO := Lib.hid (hj.out.done HX.out HY.out)
        go_wp2
        go_ret
        exact ⟨ret_bool HO.out.symm, hbw⟩
  · obtain ⟨h1, h2⟩ := int_ne (u := (n : Int)) (v := (m : Int)) (by omega)
    have HO := Lib.hid (lall2_len (eq := eq) (xs := xs) (ys := ys) (by rw [HX.out, HY.out]; exact h))
    go_enter Tryd.func41, Tryd.ntmps41
    go_wp2
    go_ret
    exact ⟨ret_bool HO.out.symm, Below.refl _ _⟩
end Go.Proofs.YtnkboccngialiaaDoor
