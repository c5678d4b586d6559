/- Lists of api.File: held against each other. -/
import Derived.Test.YtahlfafcjjkliaaGreatDoorE0
namespace Go.Proofs.YtahlfafcjjkliaaGreatDoor
open Go.RowKit

theorem FV.eq_iff {x y : FV} : x = y ↔ x.path = y.path ∧ x.exec = y.exec ∧ x.text = y.text := by
  cases x; cases y; simp
theorem eqF_run (x y : FV) (w : World) : (Op.equalIn 10000 35 (.agg #[.string x.path, .bool x.exec, .string x.text]) (.agg #[.string y.path, .bool y.exec, .string y.text])).run Tryz.prog w = .ok (decide (x = y)) w := by
  by_cases h_path : x.path = y.path
  case neg => rw [decide_eq_false (fun e => h_path (by rw [e]))]; have hn2 : ¬ x.path.toList = y.path.toList := beq_eq_false_iff_ne.1 (ba_ne h_path); go_simp <;> simp_all
  by_cases h_exec : x.exec = y.exec
  case neg => rw [decide_eq_false (fun e => h_exec (by rw [e]))]; go_simp <;> simp_all
  by_cases h_text : x.text = y.text
  case neg => rw [decide_eq_false (fun e => h_text (by rw [e]))]; have hn2 : ¬ x.text.toList = y.text.toList := beq_eq_false_iff_ne.1 (ba_ne h_text); go_simp <;> simp_all
  rw [decide_eq_true (FV.eq_iff.2 ⟨h_path, h_exec, h_text⟩)]; go_simp <;> simp_all
set_option maxRecDepth 100000 in
set_option maxHeartbeats 4000000 in
theorem plain1F_any (x y : FV) (w : World) : Calls Tryz.prog 39 #[.agg #[.string x.path, .bool x.exec, .string x.text], .agg #[.string y.path, .bool y.exec, .string y.text]] w (BoolBelow (decide (x = y)) w) := by
  have hb : ∀ o1 o2 : Obj, Below w.heap.size w ((w.alloc o1).alloc o2) := fun o1 o2 => ((Below.refl _ _).alloc (Nat.le_refl _) _).alloc (by simp) _
  cases hd : decide (x = y) with
  | true =>
    obtain rfl := of_decide_eq_true hd
    clear hd
    go_enter Tryz.func39, Tryz.ntmps39
    go_wp2
    go_ret
    exact ⟨rfl, hb _ _⟩
  | false =>
    have he := of_decide_eq_false hd
    clear hd
    by_cases h_path : x.path = y.path
    case neg =>
      have hn2 : ¬ x.path.toList = y.path.toList := beq_eq_false_iff_ne.1 (ba_ne h_path)
      clear he
      go_enter Tryz.func39, Tryz.ntmps39
      go_wp2
      go_ret
      exact ⟨rfl, hb _ _⟩
    have e_path := h_path
    by_cases h_exec : x.exec = y.exec
    case neg =>
      clear he
      go_enter Tryz.func39, Tryz.ntmps39
      go_wp2
      go_ret
      exact ⟨rfl, hb _ _⟩
    have e_exec := h_exec
    by_cases h_text : x.text = y.text
    case neg =>
      have hn2 : ¬ x.text.toList = y.text.toList := beq_eq_false_iff_ne.1 (ba_ne h_text)
      clear he
      go_enter Tryz.func39, Tryz.ntmps39
      go_wp2
      go_ret
      exact ⟨rfl, hb _ _⟩
    have e_text := h_text
    exact absurd (FV.eq_iff.2 ⟨h_path, h_exec, h_text⟩) he
set_option maxRecDepth 100000 in
set_option maxHeartbeats 4000000 in
theorem sameF_any {G : FuncId} {A B : Option Addr} {n ca m cb : Nat} {xs ys : List FV} {w : World} (eq : FV → FV → Bool) (hn : n ≤ 17592186044416) (hm : m ≤ 17592186044416)
    (ha : Rd w w.heap.size 3 A n ca (xs.flatMap FV.cells)) (hb : Rd w w.heap.size 3 B m cb (ys.flatMap FV.cells)) (hxl : xs.length = n) (hyl : ys.length = m) (hG : isGo Tryz.prog G = true)
    (HC : ∀ x ∈ xs, ∀ y ∈ ys, ∀ v, Below w.heap.size w v → Calls Tryz.prog G #[.agg #[.string x.path, .bool x.exec, .string x.text], .agg #[.string y.path, .bool y.exec, .string y.text]] v (BoolBelow (eq x y) v)) :
    Calls Tryz.prog 38 #[.slice A n ca, .slice B m cb, .func (.func G) #[] #[]] w (BoolBelow (lall2 eq xs ys) w) := by
  have HX := Lib.hid hxl
  have HY := Lib.hid hyl
  by_cases h : n = m
  · subst h
    go_enter Tryz.func38, Tryz.ntmps38
    go_wp2
    go_loopw [7] (fun i wr => ∃ k : Nat, k ≤ n ∧ i = .int .i64 k ∧ Below w.heap.size w wr ∧ Hid (EqTo eq xs ys k)) (fun i _ => n - (intOf i).toNat)
    case atStart => exact ⟨0, Nat.zero_le _, rfl, Below.refl _ _, fun j _ _ hj => absurd hj (Nat.not_lt_zero _)⟩
    case round =>
      obtain ⟨k, hk, rfl, hbw, hj⟩ := hrel
      by_cases hlt : k < n
      · obtain ⟨b0, o0, u, eA, hb0, hx, hxm, p⟩ := T.rd_flat FV.cells_len (by omega) ha HX.out hlt
        obtain ⟨b1, o1, v, eB, hb1, hy, hym, r⟩ := T.rd_flat FV.cells_len (by omega) hb HY.out hlt
        cases eA
        cases eB
        have HU := Lib.hid hx
        have HV := Lib.hid hy
        clear hx hy
        have hbs := hbw.size
        have C := HC u hxm v hym
        go_wp2
        refine wp_region_q (fun w' => Below w.heap.size w w') (qe [9] 11) mixed (by kernel_rfl) hbw.drew ?_
        intro T M Q hT hT' hM hQ
        have mp : ∀ j v, (FV.cells u)[j]? = some v → M ⟨b0, o0 + k * 3 + j, none⟩ = some v := fun j v hv => hM _ _ fun w' hw => (hw.cell (p := ⟨b0, o0 + k * 3 + j, none⟩) (by show b0 < _; omega)).trans (p j v hv)
        have mr : ∀ j x, (FV.cells v)[j]? = some x → M ⟨b1, o1 + k * 3 + j, none⟩ = some x := fun j v hv => hM _ _ fun w' hw => (hw.cell (p := ⟨b1, o1 + k * 3 + j, none⟩) (by show b1 < _; omega)).trans (r j v hv)
        have m0 : M ⟨b0, o0 + k * 3, none⟩ = some (.string u.path) := mp 0 _ rfl
        have q0 : M ⟨b1, o1 + k * 3, none⟩ = some (.string v.path) := mr 0 _ rfl
        have m1 : M ⟨b0, o0 + k * 3 + 1, none⟩ = some (.bool u.exec) := mp 1 _ rfl
        have q1 : M ⟨b1, o1 + k * 3 + 1, none⟩ = some (.bool v.exec) := mr 1 _ rfl
        have m2 : M ⟨b0, o0 + k * 3 + 2, none⟩ = some (.string u.text) := mp 2 _ rfl
        have q2 : M ⟨b1, o1 + k * 3 + 2, none⟩ = some (.string v.text) := mr 2 _ rfl
        clear hM mp mr p r
        simp only [qcmp, Nat.reduceBEq]
        simp (maxSteps := 5000000) only [↓qpre, qpost, qfacts, qnorm, m0, q0, m1, q1, m2, q2]
        refine ⟨⟨by omega, by omega⟩, ⟨by omega, by omega⟩, eff_call hG (C _ hbw.drew) rfl rfl ?_⟩
        rintro e w1 ⟨rfl, hb1⟩
        have hbd : Below w.heap.size w w1 := hbw.drew.trans (hb1.mono hbs)
        refine ⟨_, rfl, hT _ hbd, ?_⟩
        simp (maxSteps := 5000000) only [↓qpre, qpost, qnorm]
        refine hQ _ _ ?_
        clear hQ hT hT' m0 q0 m1 q1 m2 q2 C
        cases he : eq u v with
        | true =>
          have HO := Lib.hid (hj.out.next HU.out HV.out he)
          clear he
          go_wp2
          go_roundw
          case rel => exact ⟨k + 1, by omega, by go_num, hbd, HO.out⟩
          case measure => simp [intOf]; omega
        | false =>
          have HO := Lib.hid (lall2_bad HU.out HV.out he)
          clear he
          go_wp2
          go_ret
          exact ⟨ret_bool HO.out.symm, hbd⟩
      · obtain rfl : k = n := by omega
        have HO := Lib.hid (hj.out.done HX.out HY.out)
        go_wp2
        go_ret
        exact ⟨ret_bool HO.out.symm, hbw⟩
  · obtain ⟨h1, h2⟩ := int_ne (u := (n : Int)) (v := (m : Int)) (by omega)
    have HO := Lib.hid (lall2_len (eq := eq) (xs := xs) (ys := ys) (by rw [HX.out, HY.out]; exact h))
    go_enter Tryz.func38, Tryz.ntmps38
    go_wp2
    go_ret
    exact ⟨ret_bool HO.out.symm, Below.refl _ _⟩
set_option maxRecDepth 100000 in
set_option maxHeartbeats 4000000 in
theorem plainF_any {A B : Option Addr} {n ca m cb : Nat} {xs ys : List FV} {w : World} (hn : n ≤ 17592186044416) (hm : m ≤ 17592186044416)
    (ha : Rd w w.heap.size 3 A n ca (xs.flatMap FV.cells)) (hb : Rd w w.heap.size 3 B m cb (ys.flatMap FV.cells)) (hxl : xs.length = n) (hyl : ys.length = m) :
    Calls Tryz.prog 11 #[.slice A n ca, .slice B m cb] w (BoolBelow (decide (xs = ys)) w) := by
  have C := sameF_any (G := 39) (fun x y => decide (x = y)) hn hm ha hb hxl hyl (by kernel_rfl) fun x _ y _ v _ => plain1F_any x y v
  rw [lall2_eq] at C
  go_enter Tryz.func11, Tryz.ntmps11
  go_wp2_with fail
  refine C.mono ?_
  rintro e w1 ⟨rfl, hb1⟩
  go_wp2
  go_ret
  exact ⟨rfl, hb1⟩
set_option maxRecDepth 100000 in
set_option maxHeartbeats 4000000 in
theorem equalF_any {A B : Option Addr} {n ca m cb : Nat} {xs ys : List FV} {w : World} (hn : n ≤ 17592186044416) (hm : m ≤ 17592186044416)
    (ha : Rd w w.heap.size 3 A n ca (xs.flatMap FV.cells)) (hb : Rd w w.heap.size 3 B m cb (ys.flatMap FV.cells)) (hxl : xs.length = n) (hyl : ys.length = m) :
    Calls Tryz.prog 63 #[.slice A n ca, .slice B m cb] w (BoolBelow (decide (xs = ys)) w) := by
  have HX := Lib.hid hxl
  have HY := Lib.hid hyl
  rw [← lall2_eq]
  by_cases h : n = m
  · subst h
    go_enter Tryz.func63, Tryz.ntmps63
    go_wp2
    go_loopw [13] (fun i wr => ∃ k : Nat, k ≤ n ∧ i = .int .i64 k ∧ Below w.heap.size w wr ∧ Hid (EqTo (fun x y => decide (x = y)) xs ys k)) (fun i _ => n - (intOf i).toNat)
    case atStart => exact ⟨0, Nat.zero_le _, rfl, Below.refl _ _, fun j _ _ hj => absurd hj (Nat.not_lt_zero _)⟩
    case round =>
      obtain ⟨k, hk, rfl, hbw, hj⟩ := hrel
      by_cases hlt : k < n
      · obtain ⟨b0, o0, u, eA, hb0, hx, hxm, p⟩ := T.rd_flat FV.cells_len (by omega) ha HX.out hlt
        obtain ⟨b1, o1, v, eB, hb1, hy, hym, r⟩ := T.rd_flat FV.cells_len (by omega) hb HY.out hlt
        cases eA
        cases eB
        have HU := Lib.hid hx
        have HV := Lib.hid hy
        clear hx hy
        have hbs := hbw.size
        go_wp2
        refine wp_region_q (fun w' => Below w.heap.size w w') (qe [8] 9) mixed (by kernel_rfl) hbw.drew ?_
        intro T M Q hT hT' hM hQ
        have mp : ∀ j v, (FV.cells u)[j]? = some v → M ⟨b0, o0 + k * 3 + j, none⟩ = some v := fun j v hv => hM _ _ fun w' hw => (hw.cell (p := ⟨b0, o0 + k * 3 + j, none⟩) (by show b0 < _; omega)).trans (p j v hv)
        have mr : ∀ j x, (FV.cells v)[j]? = some x → M ⟨b1, o1 + k * 3 + j, none⟩ = some x := fun j v hv => hM _ _ fun w' hw => (hw.cell (p := ⟨b1, o1 + k * 3 + j, none⟩) (by show b1 < _; omega)).trans (r j v hv)
        have m0 : M ⟨b0, o0 + k * 3, none⟩ = some (.string u.path) := mp 0 _ rfl
        have q0 : M ⟨b1, o1 + k * 3, none⟩ = some (.string v.path) := mr 0 _ rfl
        have m1 : M ⟨b0, o0 + k * 3 + 1, none⟩ = some (.bool u.exec) := mp 1 _ rfl
        have q1 : M ⟨b1, o1 + k * 3 + 1, none⟩ = some (.bool v.exec) := mr 1 _ rfl
        have m2 : M ⟨b0, o0 + k * 3 + 2, none⟩ = some (.string u.text) := mp 2 _ rfl
        have q2 : M ⟨b1, o1 + k * 3 + 2, none⟩ = some (.string v.text) := mr 2 _ rfl
        clear hM mp mr p r
        simp only [qcmp, Nat.reduceBEq]
        simp (maxSteps := 5000000) only [↓qpre, qpost, qfacts, qnorm, m0, q0, m1, q1, m2, q2]
        refine ⟨⟨by omega, by omega⟩, ⟨by omega, by omega⟩, eff_neq rfl rfl (by kernel_rfl) (eqF_run u v _) ⟨hT _ hbw.drew, ?_⟩⟩
        have hbd := hbw.drew
        simp (maxSteps := 5000000) only [↓qpre, qpost, qnorm]
        refine hQ _ _ ?_
        clear hQ hT hT' m0 q0 m1 q1 m2 q2
        cases he : decide (u = v) with
        | true =>
          have HO := Lib.hid (hj.out.next HU.out HV.out he)
          clear he
          go_wp2
          go_roundw
          case rel => exact ⟨k + 1, by omega, by go_num, hbd, HO.out⟩
          case measure => simp [intOf]; omega
        | false =>
          have HO := Lib.hid (lall2_bad (eq := fun x y => decide (x = y)) HU.out HV.out he)
          clear he
          go_wp2
          go_ret
          exact ⟨ret_bool HO.out.symm, hbd⟩
      · obtain rfl : k = n := by omega
        have HO := Lib.hid (hj.out.done HX.out HY.out)
        go_wp2
        go_ret
        exact ⟨ret_bool HO.out.symm, hbw⟩
  · obtain ⟨h1, h2⟩ := int_ne (u := (n : Int)) (v := (m : Int)) (by omega)
    have HO := Lib.hid (lall2_len (eq := fun x y : FV => decide (x = y)) (xs := xs) (ys := ys) (by rw [HX.out, HY.out]; exact h))
    go_enter Tryz.func63, Tryz.ntmps63
    go_wp2
    go_ret
    exact ⟨ret_bool HO.out.symm, Below.refl _ _⟩
end Go.Proofs.YtahlfafcjjkliaaGreatDoor
