/- Lists of api.Clash: held against each other. -/
import Derived.Test.YtnkboccngialiaaDoorE0
namespace Go.Proofs.YtnkboccngialiaaDoor
open Go.RowKit

structure CV where
  path : ByteArray
  kind : Int
  text : ByteArray
deriving DecidableEq
def CV.cells (x : CV) : List Value := [.string x.path, .int .i64 x.kind, .string x.text]
theorem CV.cells_len (x : CV) : x.cells.length = 3 := rfl
theorem CV.eq_iff {x y : CV} : x = y ↔ x.path = y.path ∧ x.kind = y.kind ∧ x.text = y.text := by
  cases x; cases y; simp
theorem eqC_run (x y : CV) (w : World) : (Op.equalIn 10000 113 (.agg #[.string x.path, .int .i64 x.kind, .string x.text]) (.agg #[.string y.path, .int .i64 y.kind, .string y.text])).run Tryd.prog w = .ok (decide (x = y)) w := by
  by_cases h_path : x.path = y.path
  case neg => rw [decide_eq_false (fun e => h_path (by rw [e]))]; have hn2 : ¬ x.path.toList = y.path.toList := beq_eq_false_iff_ne.1 (ba_ne h_path); go_simp <;> simp_all
  by_cases h_kind : x.kind = y.kind
  case neg => rw [decide_eq_false (fun e => h_kind (by rw [e]))]; go_simp <;> simp_all
  by_cases h_text : x.text = y.text
  case neg => rw [decide_eq_false (fun e => h_text (by rw [e]))]; have hn2 : ¬ x.text.toList = y.text.toList := beq_eq_false_iff_ne.1 (ba_ne h_text); go_simp <;> simp_all
  rw [decide_eq_true (CV.eq_iff.2 ⟨h_path, h_kind, h_text⟩)]; go_simp <;> simp_all
set_option maxRecDepth 100000 in
set_option maxHeartbeats 4000000 in
theorem plain1C_any (x y : CV) (w : World) : Calls Tryd.prog 88 #[.agg #[.string x.path, .int .i64 x.kind, .string x.text], .agg #[.string y.path, .int .i64 y.kind, .string y.text]] w (BoolBelow (decide (x = y)) w) := by
  have hb : ∀ o1 o2 : Obj, Below w.heap.size w ((w.alloc o1).alloc o2) := fun o1 o2 => ((Below.refl _ _).alloc (Nat.le_refl _) _).alloc (by simp) _
  cases hd : decide (x = y) with
  | true =>
    obtain rfl := of_decide_eq_true hd
    clear hd
    go_enter Tryd.func88, Tryd.ntmps88
    go_wp2
    go_ret
    exact ⟨rfl, hb _ _⟩
  | false =>
    have he := of_decide_eq_false hd
    clear hd
    by_cases h_path : x.path = y.path
    case neg =>
      have hn2 : ¬ x.path.toList = y.path.toList := beq_eq_false_iff_ne.1 (ba_ne h_path)
      clear he
      go_enter Tryd.func88, Tryd.ntmps88
      go_wp2
      go_ret
      exact ⟨rfl, hb _ _⟩
    have e_path := h_path
    by_cases h_kind : x.kind = y.kind
    case neg =>
      have hn2 := int_ne h_kind
      clear he
      go_enter Tryd.func88, Tryd.ntmps88
      go_wp2
      go_ret
      exact ⟨rfl, hb _ _⟩
    have e_kind := h_kind
    by_cases h_text : x.text = y.text
    case neg =>
      have hn2 : ¬ x.text.toList = y.text.toList := beq_eq_false_iff_ne.1 (ba_ne h_text)
      clear he
      go_enter Tryd.func88, Tryd.ntmps88
      go_wp2
      go_ret
      exact ⟨rfl, hb _ _⟩
    have e_text := h_text
    exact absurd (CV.eq_iff.2 ⟨h_path, h_kind, h_text⟩) he
set_option maxRecDepth 100000 in
set_option maxHeartbeats 4000000 in
theorem sameC_any {G : FuncId} {A B : Option Addr} {n ca m cb : Nat} {xs ys : List CV} {w : World} (eq : CV → CV → Bool) (hn : n ≤ 17592186044416) (hm : m ≤ 17592186044416)
    (ha : Rd w w.heap.size 3 A n ca (xs.flatMap CV.cells)) (hb : Rd w w.heap.size 3 B m cb (ys.flatMap CV.cells)) (hxl : xs.length = n) (hyl : ys.length = m) (hG : isGo Tryd.prog G = true)
    (HC : ∀ x ∈ xs, ∀ y ∈ ys, ∀ v, Below w.heap.size w v → Calls Tryd.prog G #[.agg #[.string x.path, .int .i64 x.kind, .string x.text], .agg #[.string y.path, .int .i64 y.kind, .string y.text]] v (BoolBelow (eq x y) v)) :
    Calls Tryd.prog 87 #[.slice A n ca, .slice B m cb, .func (.func G) #[] #[]] w (BoolBelow (lall2 eq xs ys) w) := by
  have HX := Lib.hid hxl
  have HY := Lib.hid hyl
  by_cases h : n = m
  · subst h
    go_enter Tryd.func87, Tryd.ntmps87
    go_wp2
    go_loopw [7] (fun i wr => ∃ k : Nat, k ≤ n ∧ i = .int .i64 k ∧ Below w.heap.size w wr ∧ Hid (EqTo eq xs ys k)) (fun i _ => n - (intOf i).toNat)
    case atStart => exact ⟨0, Nat.zero_le _, rfl, Below.refl _ _, fun j _ _ hj => absurd hj (Nat.not_lt_zero _)⟩
    case round =>
      obtain ⟨k, hk, rfl, hbw, hj⟩ := hrel
      by_cases hlt : k < n
      · obtain ⟨b0, o0, u, eA, hb0, hx, hxm, p⟩ := T.rd_flat CV.cells_len (by omega) ha HX.out hlt
        obtain ⟨b1, o1, v, eB, hb1, hy, hym, r⟩ := T.rd_flat CV.cells_len (by omega) hb HY.out hlt
        cases eA
        cases eB
        have HU := Lib.hid hx
        have HV := Lib.hid hy
        clear hx hy
        have hbs := hbw.size
        have C := HC u hxm v hym
        go_wp2
        refine wp_region_q (fun w' => Below w.heap.size w w') (qe [9] 11) mixed (by kernel_rfl) hbw.drew ?_
        intro T M Q hT hT' hM hQ
        have mp : ∀ j v, (CV.cells u)[j]? = some v → M ⟨b0, o0 + k * 3 + j, none⟩ = some v := fun j v hv => hM _ _ fun w' hw => (hw.cell (p := ⟨b0, o0 + k * 3 + j, none⟩) (by show b0 < _; omega)).trans (p j v hv)
        have mr : ∀ j x, (CV.cells v)[j]? = some x → M ⟨b1, o1 + k * 3 + j, none⟩ = some x := fun j v hv => hM _ _ fun w' hw => (hw.cell (p := ⟨b1, o1 + k * 3 + j, none⟩) (by show b1 < _; omega)).trans (r j v hv)
        have m0 : M ⟨b0, o0 + k * 3, none⟩ = some (.string u.path) := mp 0 _ rfl
        have q0 : M ⟨b1, o1 + k * 3, none⟩ = some (.string v.path) := mr 0 _ rfl
        have m1 : M ⟨b0, o0 + k * 3 + 1, none⟩ = some (.int .i64 u.kind) := mp 1 _ rfl
        have q1 : M ⟨b1, o1 + k * 3 + 1, none⟩ = some (.int .i64 v.kind) := mr 1 _ rfl
        have m2 : M ⟨b0, o0 + k * 3 + 2, none⟩ = some (.string u.text) := mp 2 _ rfl
        have q2 : M ⟨b1, o1 + k * 3 + 2, none⟩ = some (.string v.text) := mr 2 _ rfl
        clear hM mp mr p r
        simp only [qcmp, Nat.reduceBEq]
        simp (maxSteps := 5000000) only [↓qpre, qpost, qfacts, qnorm, m0, q0, m1, q1, m2, q2]
        refine ⟨⟨by omega, by omega⟩, ⟨by omega, by omega⟩, eff_call hG (C _ hbw.drew) rfl rfl ?_⟩
        rintro e w1 ⟨rfl, hb1⟩
        have hbd : Below w.heap.size w w1 := hbw.drew.trans (hb1.mono hbs)
        refine ⟨_, rfl, hT _ hbd, ?_⟩
        simp (maxSteps := 5000000) only [↓qpre, qpost, qnorm]
        refine hQ _ _ ?_
        clear hQ hT hT' m0 q0 m1 q1 m2 q2 C
        cases he : eq u v with
        | true =>
          have HO := Lib.hid (hj.out.next HU.out HV.out he)
          clear he
          go_wp2
          go_roundw
          case rel => exact ⟨k + 1, by omega, by go_num, hbd, HO.out⟩
          case measure => simp [intOf]; omega
        | false =>
          have HO := Lib.hid (lall2_bad HU.out HV.out he)
          clear he
          go_wp2
          go_ret
          exact ⟨ret_bool HO.out.symm, hbd⟩
      · obtain rfl : k = n := by omega
        have HO := Lib.hid (hj.out.done HX.out HY.out)
        go_wp2
        go_ret
        exact ⟨ret_bool HO.out.symm, hbw⟩
  · obtain ⟨h1, h2⟩ := int_ne (u := (n : Int)) (v := (m : Int)) (by omega)
    have HO := Lib.hid (lall2_len (eq := eq) (xs := xs) (ys := ys) (by rw [HX.out, HY.out]; exact h))
    go_enter Tryd.func87, Tryd.ntmps87
    go_wp2
    go_ret
    exact ⟨ret_bool HO.out.symm, Below.refl _ _⟩
set_option maxRecDepth 100000 in
set_option maxHeartbeats 4000000 in
theorem plainC_any {A B : Option Addr} {n ca m cb : Nat} {xs ys : List CV} {w : World} (hn : n ≤ 17592186044416) (hm : m ≤ 17592186044416)
    (ha : Rd w w.heap.size 3 A n ca (xs.flatMap CV.cells)) (hb : Rd w w.heap.size 3 B m cb (ys.flatMap CV.cells)) (hxl : xs.length = n) (hyl : ys.length = m) :
    Calls Tryd.prog 66 #[.slice A n ca, .slice B m cb] w (BoolBelow (decide (xs = ys)) w) := by
  have C := sameC_any (G := 88) (fun x y => decide (x = y)) hn hm ha hb hxl hyl (by kernel_rfl) fun x _ y _ v _ => plain1C_any x y v
  rw [lall2_eq] at C
  go_enter Tryd.func66, Tryd.ntmps66
  go_wp2_with fail
  refine C.mono ?_
  rintro e w1 ⟨rfl, hb1⟩
  go_wp2
  go_ret
  exact ⟨rfl, hb1⟩
set_option maxRecDepth 100000 in
set_option maxHeartbeats 4000000 in
theorem equalC_any {A B : Option Addr} {n ca m cb : Nat} {xs ys : List CV} {w : World} (hn : n ≤ 17592186044416) (hm : m ≤ 17592186044416)
    (ha : Rd w w.heap.size 3 A n ca (xs.flatMap CV.cells)) (hb : Rd w w.heap.size 3 B m cb (ys.flatMap CV.cells)) (hxl : xs.length = n) (hyl : ys.length = m) :
    Calls Tryd.prog 70 #[.slice A n ca, .slice B m cb] w (BoolBelow (decide (xs = ys)) w) := by
  have HX := Lib.hid hxl
  have HY := Lib.hid hyl
  rw [← lall2_eq]
  by_cases h : n = m
  · subst h
    go_enter Tryd.func70, Tryd.ntmps70
    go_wp2
    go_loopw [13] (fun i wr => ∃ k : Nat, k ≤ n ∧ i = .int .i64 k ∧ Below w.heap.size w wr ∧ Hid (EqTo (fun x y => decide (x = y)) xs ys k)) (fun i _ => n - (intOf i).toNat)
    case atStart => exact ⟨0, Nat.zero_le _, rfl, Below.refl _ _, fun j _ _ hj => absurd hj (Nat.not_lt_zero _)⟩
    case round =>
      obtain ⟨k, hk, rfl, hbw, hj⟩ := hrel
      by_cases hlt : k < n
      · obtain ⟨b0, o0, u, eA, hb0, hx, hxm, p⟩ := T.rd_flat CV.cells_len (by omega) ha HX.out hlt
        obtain ⟨b1, o1, v, eB, hb1, hy, hym, r⟩ := T.rd_flat CV.cells_len (by omega) hb HY.out hlt
        cases eA
        cases eB
        have HU := Lib.hid hx
        have HV := Lib.hid hy
        clear hx hy
        have hbs := hbw.size
        go_wp2
        refine wp_region_q (fun w' => Below w.heap.size w w') (qe [8] 9) mixed (by kernel_rfl) hbw.drew ?_
        intro T M Q hT hT' hM hQ
        have mp : ∀ j v, (CV.cells u)[j]? = some v → M ⟨b0, o0 + k * 3 + j, none⟩ = some v := fun j v hv => hM _ _ fun w' hw => (hw.cell (p := ⟨b0, o0 + k * 3 + j, none⟩) (by show b0 < _; omega)).trans (p j v hv)
        have mr : ∀ j x, (CV.cells v)[j]? = some x → M ⟨b1, o1 + k * 3 + j, none⟩ = some x := fun j v hv => hM _ _ fun w' hw => (hw.cell (p := ⟨b1, o1 + k * 3 + j, none⟩) (by show b1 < _; omega)).trans (r j v hv)
        have m0 : M ⟨b0, o0 + k * 3, none⟩ = some (.string u.path) := mp 0 _ rfl
        have q0 : M ⟨b1, o1 + k * 3, none⟩ = some (.string v.path) := mr 0 _ rfl
        have m1 : M ⟨b0, o0 + k * 3 + 1, none⟩ = some (.int .i64 u.kind) := mp 1 _ rfl
        have q1 : M ⟨b1, o1 + k * 3 + 1, none⟩ = some (.int .i64 v.kind) := mr 1 _ rfl
        have m2 : M ⟨b0, o0 + k * 3 + 2, none⟩ = some (.string u.text) := mp 2 _ rfl
        have q2 : M ⟨b1, o1 + k * 3 + 2, none⟩ = some (.string v.text) := mr 2 _ rfl
        clear hM mp mr p r
        simp only [qcmp, Nat.reduceBEq]
        simp (maxSteps := 5000000) only [↓qpre, qpost, qfacts, qnorm, m0, q0, m1, q1, m2, q2]
        refine ⟨⟨by omega, by omega⟩, ⟨by omega, by omega⟩, eff_neq rfl rfl (by kernel_rfl) (eqC_run u v _) ⟨hT _ hbw.drew, ?_⟩⟩
        have hbd := hbw.drew
        simp (maxSteps := 5000000) only [↓qpre, qpost, qnorm]
        refine hQ _ _ ?_
        clear hQ hT hT' m0 q0 m1 q1 m2 q2
        cases he : decide (u = v) with
        | true =>
          have HO := Lib.hid (hj.out.next HU.out HV.out he)
          clear he
          go_wp2
          go_roundw
          case rel => exact ⟨k + 1, by omega, by go_num, hbd, HO.out⟩
          case measure => simp [intOf]; omega
        | false =>
          have HO := Lib.hid (lall2_bad (eq := fun x y => decide (x = y)) HU.out HV.out he)
          clear he
          go_wp2
          go_ret
          exact ⟨ret_bool HO.out.symm, hbd⟩
      · obtain rfl : k = n := by omega
        have HO := Lib.hid (hj.out.done HX.out HY.out)
        go_wp2
        go_ret
        exact ⟨ret_bool HO.out.symm, hbw⟩
  · obtain ⟨h1, h2⟩ := int_ne (u := (n : Int)) (v := (m : Int)) (by omega)
    have HO := Lib.hid (lall2_len (eq := fun x y : CV => decide (x = y)) (xs := xs) (ys := ys) (by rw [HX.out, HY.out]; exact h))
    go_enter Tryd.func70, Tryd.ntmps70
    go_wp2
    go_ret
    exact ⟨ret_bool HO.out.symm, Below.refl _ _⟩
end Go.Proofs.YtnkboccngialiaaDoor
