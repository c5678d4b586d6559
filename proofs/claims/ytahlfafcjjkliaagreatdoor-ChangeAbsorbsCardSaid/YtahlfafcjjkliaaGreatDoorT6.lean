/- Walks: the program's tree.Right. -/
import Derived.Test.YtahlfafcjjkliaaGreatDoorT5
namespace Go.Proofs.YtahlfafcjjkliaaGreatDoor
open Go.RowKit

theorem T.bytesLess : ∀ (x y : Bs), Op.bytesLess x y = decide (x < y)
  | [], [] => by simp [Op.bytesLess]
  | _ :: _, [] => by simp [Op.bytesLess]
  | [], _ :: _ => by simp [Op.bytesLess]
  | a :: x, b :: y => by
    rw [Op.bytesLess, T.bytesLess x y]
    by_cases h : a < b
    · simp [h, List.cons_lt_cons_iff]
    · by_cases e : a = b
      · subst e; simp [List.cons_lt_cons_iff]
      · simp [h, e, List.cons_lt_cons_iff]
theorem bs_tri (a b : Bs) : a < b ∨ a = b ∨ b < a := by
  by_cases h : a < b
  · exact .inl h
  · by_cases h2 : b < a
    · exact .inr (.inr h2)
    · exact .inr (.inl (List.le_antisymm (List.not_lt.1 h2) (List.not_lt.1 h)))
theorem lt_str (a b : ByteArray) : Op.bytesLess a.toList b.toList = decide (a.data.toList < b.data.toList) := by rw [T.bytesLess, Lib.toList_data, Lib.toList_data]
theorem leq_str (a b : ByteArray) : (Op.bytesLess a.toList b.toList || decide (a = b)) = !decide (b.data.toList < a.data.toList) := by
  rw [lt_str]
  rcases bs_tri a.data.toList b.data.toList with h | h | h
  · have h2 : ¬ b.data.toList < a.data.toList := List.lt_asymm h
    simp [h, h2]
  · have e : a = b := ba_ext h
    subst e
    simp [List.lt_irrefl]
  · have h2 : ¬ a.data.toList < b.data.toList := List.lt_asymm h
    have e : a ≠ b := fun e => by subst e; exact List.lt_irrefl _ h
    simp [h, h2, e]

/-- Nothing speaks against a file at its place. -/
def Fine (l : List FV) (k : Nat) (f : FV) : Prop := FileOk f ∧ (∀ g, 1 ≤ k → l[k - 1]? = some g → g.p < f.p) ∧ onWay (pathsOf l) f.p = false
theorem TreeOk.fine {l : List FV} (h : TreeOk l) {k : Nat} {f : FV} (hf : l[k]? = some f) : Fine l k f := by
  refine ⟨h.2.1 f (List.mem_of_getElem? hf), fun g hk hg => h.2.2.1 (k - 1) g f hg (by rw [Nat.sub_add_cancel hk]; exact hf), ?_⟩
  cases e : onWay (pathsOf l) f.p with
  | false => rfl
  | true =>
    obtain ⟨q, hq, hw⟩ := onWay_iff.1 e
    obtain ⟨g, hg, rfl⟩ := pathsOf_iff.1 hq
    rw [h.2.2.2 f (List.mem_of_getElem? hf) g hg] at hw; cases hw
theorem tree_fine {l : List FV} (hl : l.length ≤ 100) (h : ∀ k f, l[k]? = some f → Fine l k f) : TreeOk l := by
  refine ⟨hl, fun f hf => ?_, fun i a b ha hb => (h (i + 1) b hb).2.1 a (by omega) ha, fun f hf g hg => ?_⟩
  · obtain ⟨i, hi, rfl⟩ := List.getElem_of_mem hf
    exact (h i _ (List.getElem?_eq_getElem hi)).1
  · obtain ⟨i, hi, rfl⟩ := List.getElem_of_mem hf
    have h1 := (h i _ (List.getElem?_eq_getElem hi)).2.2
    cases e : within l[i].p g.p with
    | false => rfl
    | true =>
      have := onWay_iff.2 ⟨g.p, pathsOf_iff.2 ⟨g, hg, rfl⟩, e⟩
      rw [this] at h1; cases h1
theorem tree_no {l : List FV} {k : Nat} {f : FV} (hf : l[k]? = some f) (h : ¬ Fine l k f) : treeOk l = false := by
  cases e : treeOk l with
  | false => rfl
  | true => exact absurd ((treeOk_iff.1 e).fine hf) h
theorem tree_long {l : List FV} (h : 100 < l.length) : treeOk l = false := by
  cases e : treeOk l with
  | false => rfl
  | true => have := (treeOk_iff.1 e).1; omega
/-- So far nothing speaks against it. -/
def FineTo (l : List FV) (k : Nat) : Prop := ∀ j f, j < k → l[j]? = some f → Fine l j f
theorem FineTo.done {l : List FV} {n : Nat} (h : FineTo l n) (hl : l.length = n) (hn : n ≤ 100) : treeOk l = true :=
  treeOk_iff.2 (tree_fine (by omega) fun k f hf => h k f (by have := (List.getElem?_eq_some_iff.1 hf).1; omega) hf)
theorem FineTo.next {l : List FV} {k : Nat} {f : FV} (h : FineTo l k) (hf : l[k]? = some f) (h1 : Fine l k f) : FineTo l (k + 1) := by
  intro j g hj hg
  by_cases e : j = k
  · subst e; rw [hf] at hg; injection hg with hg; subst hg; exact h1
  · exact h j g (by omega) hg

set_option maxRecDepth 100000 in
set_option maxHeartbeats 8000000 in
theorem treeRight_any {A : Option Addr} {n c : Nat} {l : List FV} {w : World} (hn : n ≤ 17592186044416) (hm : Lm w) (h : RdF w w.heap.size A n c l) :
    Calls Tryz.prog 31 #[.slice A n c] w (BoolBelow (treeOk l) w) := by
  have HL := Lib.hid h.len
  by_cases hbig : 100 < n
  · have HO := Lib.hid (tree_long (l := l) (by rw [HL.out]; exact hbig))
    go_enter Tryz.func31, Tryz.ntmps31
    go_wp2
    go_ret
    exact ⟨ret_bool HO.out.symm, Below.refl _ _⟩
  have hn100 : n ≤ 100 := by omega
  go_enter Tryz.func31, Tryz.ntmps31
  go_wp2_with fail
  refine (paths_any hn h).mono ?_
  rintro e w1 ⟨g, nn, D, rfl, hg1, hg2, hnn, hS, hb1⟩
  go_wp2
  go_loopw [13] (fun i wr => ∃ k : Nat, k ≤ n ∧ i = .int .i64 k ∧ Below w.heap.size w wr ∧ Below w1.heap.size w1 wr ∧ Hid (FineTo l k)) (fun i _ => n - (intOf i).toNat)
  case atStart => exact ⟨0, Nat.zero_le _, rfl, hb1, Below.refl _ _, fun j f hj => absurd hj (Nat.not_lt_zero _)⟩
  case round =>
    obtain ⟨k, hk, rfl, hb, hb2, hF⟩ := hrel
    by_cases hlt : k < n
    · obtain ⟨b0, o0, f, eA, hbb, hx, hfm, h0, h1, h2⟩ := h.get hlt
      cases eA
      replace h0 := (hb.cell (p := ⟨b0, o0 + k * 3, none⟩) (by show b0 < _; omega)).trans h0
      replace h1 := (hb.cell (p := ⟨b0, o0 + k * 3 + 1, none⟩) (by show b0 < _; omega)).trans h1
      replace h2 := (hb.cell (p := ⟨b0, o0 + k * 3 + 2, none⟩) (by show b0 < _; omega)).trans h2
      have HX := Lib.hid hx; clear hx
      have hfit := h.fits f hfm
      obtain ⟨wN, hwN⟩ : ∃ x, x = wr.alloc (.cells #[.string f.path, .bool f.exec, .string f.text] 35) := ⟨_, rfl⟩
      have hbN : Below wr.heap.size wr wN := by rw [hwN]; exact (Below.refl _ _).alloc (Nat.le_refl _) _
      have hzN : wN.heap.size = wr.heap.size + 1 := by rw [hwN]; simp
      have hcN : ∀ t u, f.cells[t]? = some u → wN.cell? ⟨wr.heap.size, t, none⟩ = some u := by
        intro t u hu; rw [hwN, World.cell?, heap_alloc_new]; simpa [FV.cells] using hu
      have c0 := hcN 0 _ rfl
      have c2 := hcN 2 _ rfl
      clear hcN
      have hbW : Below w.heap.size w wN := hb.trans (hbN.mono hb.size)
      have hmN : Lm wN := hm.to hbW
      have hbW1 : Below w1.heap.size w1 wN := hb2.trans (hbN.mono hb2.size)
      have hSN := hS.below hbW1
      have HP : ∀ v : World, Below wN.heap.size wN v → Calls Tryz.prog 56 #[.string f.path] v (BoolBelow (pathOk f.p) v) := fun v hv => pathRight_any (hmN.to hv)
      have HW : ∀ v : World, Below wN.heap.size wN v → f.path.size ≤ 1048576 → Calls Tryz.prog 62 #[.map (some g), .string f.path] v (BoolBelow (onWay (pathsOf l) f.p) v) := fun v hv hs => within_any hs (hmN.to hv) (hSN.below hv)
      have BAD : ∀ v : World, Below wN.heap.size wN v → ¬ Fine l k f → BoolBelow (treeOk l) w (.returned (.bool false)) v := fun v hv hf => ⟨ret_bool (tree_no HX.out hf).symm, hbW.trans (hv.mono hbW.size)⟩
      have hz100 : pathOk f.p = true → f.path.size ≤ 100 := fun h => by
        simp only [pathOk, Bool.and_eq_true, decide_eq_true_eq] at h
        exact h.1.1.2
      go_wp2
      rw [← hwN]
      clear hwN h0 h1 h2 hS hb1 hg1 hg2
      refine wp_region_q (fun w' => Below wN.heap.size wN w') (qe [2, 29] 31) mixed (by kernel_rfl) (Below.refl _ _).drew ?_
      intro T M Q hT hT' hM hQ
      have m0 : M ⟨wr.heap.size, 0, none⟩ = some (.string f.path) := hM _ _ fun w' hw => (hw.cell (p := ⟨wr.heap.size, 0, none⟩) (by show wr.heap.size < _; omega)).trans c0
      have m2 : M ⟨wr.heap.size, 2, none⟩ = some (.string f.text) := hM _ _ fun w' hw => (hw.cell (p := ⟨wr.heap.size, 2, none⟩) (by show wr.heap.size < _; omega)).trans c2
      simp only [qcmp, Nat.reduceBEq, Bool.or_self, Bool.or_false, Bool.false_or, Bool.or_true, Bool.true_or, Bool.not_true, Bool.not_false]
      simp (maxSteps := 5000000) only [↓qpre, qpost, qfacts, qnorm, m0, m2]
      refine eff_call (by kernel_rfl) (HP _ (Below.refl _ _).drew) rfl rfl ?_
      rintro e v1 ⟨rfl, hv1⟩
      have hb3 : Below wN.heap.size wN v1 := (Below.refl _ _).drew.trans hv1
      refine ⟨_, rfl, hT _ hb3, ?_⟩
      cases hp : pathOk f.p with
      | false =>
        have HO := BAD v1 hb3 (fun hf => by rw [hf.1.1] at hp; cases hp)
        clear HP HW BAD
        simp (maxSteps := 5000000) only [↓qpre, qpost, qfacts, qnorm, m0, m2]
        refine hQ _ _ ?_
        clear hQ hT hT' hM m0 m2
        go_wp2
        go_ret
        exact HO
      | true =>
        have hz := hz100 hp
        by_cases ht : 20000 < f.text.size
        · have htd : decide ((20000 : Int) < f.text.size) = true := decide_eq_true (by omega)
          have HO := BAD v1 hb3 (fun hf => by have := hf.1.2; omega)
          clear HP HW BAD
          simp (maxSteps := 5000000) only [↓qpre, qpost, qfacts, qnorm, m0, m2, htd]
          refine hQ _ _ ?_
          clear hQ hT hT' hM m0 m2
          go_wp2
          go_ret
          exact HO
        · have htd : decide ((20000 : Int) < f.text.size) = false := decide_eq_false (by omega)
          by_cases hk0 : k = 0
          · have hk1 : decide ((0 : Int) < k) = false := decide_eq_false (by omega)
            have hpr : ∀ g, 1 ≤ k → l[k - 1]? = some g → g.p < f.p := fun g h => by omega
            simp (maxSteps := 5000000) only [↓qpre, qpost, qfacts, qnorm, m0, m2, htd, hk1]
            refine eff_call (by kernel_rfl) (HW _ hb3 (by omega)) rfl rfl ?_
            rintro e v2 ⟨rfl, hv2⟩
            have hb4 := hb3.trans (hv2.mono hb3.size)
            refine ⟨_, rfl, hT _ hb4, ?_⟩
            cases ho : onWay (pathsOf l) f.p with
            | true =>
              have HO := BAD v2 hb4 (fun hf => by rw [hf.2.2] at ho; cases ho)
              clear HP HW BAD
              simp (maxSteps := 5000000) only [↓qpre, qpost, qfacts, qnorm, m0, m2, htd, hk1]
              refine hQ _ _ ?_
              clear hQ hT hT' hM m0 m2
              go_wp2
              go_ret
              exact HO
            | false =>
              have HO := Lib.hid (FineTo.next hF.out HX.out ⟨⟨hp, by omega⟩, hpr, ho⟩)
              have hbe := hbW.trans (hb4.mono hbW.size)
              have hbe1 := hbW1.trans (hb4.mono hbW1.size)
              clear HP HW BAD
              simp (maxSteps := 5000000) only [↓qpre, qpost, qfacts, qnorm, m0, m2, htd, hk1]
              refine hQ _ _ ?_
              clear hQ hT hT' hM m0 m2
              go_wp2
              go_roundw
              case rel => exact ⟨k + 1, by omega, by go_num, hbe, hbe1, HO.out⟩
              case measure => simp [intOf]; omega
          · have hk1 : decide ((0 : Int) < k) = true := decide_eq_true (by omega)
            obtain ⟨b1, o1, g1, eA, _, hx1, _, p0, p1, p2⟩ := h.get (k := k - 1) (by omega)
            cases eA
            have m5 : M ⟨b0, o0 + (k - 1) * 3, none⟩ = some (.string g1.path) := hM _ _ fun w' hw => (hw.cell (p := ⟨b0, o0 + (k - 1) * 3, none⟩) (by show b0 < _; have := hbW.size; omega)).trans ((hbW.cell (p := ⟨b0, o0 + (k - 1) * 3, none⟩) (by show b0 < _; omega)).trans p0)
            have e1 : ((k : Int) - 1).toNat = k - 1 := by omega
            have hle := leq_str f.path g1.path
            by_cases hlt2 : g1.path.data.toList < f.path.data.toList
            · have hpr : ∀ g, 1 ≤ k → l[k - 1]? = some g → g.p < f.p := fun g _ h => by rw [hx1] at h; injection h with h; subst h; exact hlt2
              have hle2 := hle.trans (by rw [decide_eq_true hlt2]; rfl : _ = false)
              simp (maxSteps := 5000000) only [↓qpre, qpost, qfacts, qnorm, m0, m2, htd, hk1, m5, e1, hle2]
              refine ⟨by unfold inI64; omega, ⟨by omega, by omega⟩, ?_⟩
              clear hle hle2 m5 p0 p1 p2
              refine eff_call (by kernel_rfl) (HW _ hb3 (by omega)) rfl rfl ?_
              rintro e v2 ⟨rfl, hv2⟩
              have hb4 := hb3.trans (hv2.mono hb3.size)
              refine ⟨_, rfl, hT _ hb4, ?_⟩
              cases ho : onWay (pathsOf l) f.p with
              | true =>
                have HO := BAD v2 hb4 (fun hf => by rw [hf.2.2] at ho; cases ho)
                clear HP HW BAD
                simp (maxSteps := 5000000) only [↓qpre, qpost, qfacts, qnorm, m0, m2, htd, hk1]
                refine hQ _ _ ?_
                clear hQ hT hT' hM m0 m2
                go_wp2
                go_ret
                exact HO
              | false =>
                have HO := Lib.hid (FineTo.next hF.out HX.out ⟨⟨hp, by omega⟩, hpr, ho⟩)
                have hbe := hbW.trans (hb4.mono hbW.size)
                have hbe1 := hbW1.trans (hb4.mono hbW1.size)
                clear HP HW BAD
                simp (maxSteps := 5000000) only [↓qpre, qpost, qfacts, qnorm, m0, m2, htd, hk1]
                refine hQ _ _ ?_
                clear hQ hT hT' hM m0 m2
                go_wp2
                go_roundw
                case rel => exact ⟨k + 1, by omega, by go_num, hbe, hbe1, HO.out⟩
                case measure => simp [intOf]; omega
            · have HO := BAD v1 hb3 (fun hf => hlt2 (hf.2.1 g1 (by omega) hx1))
              have hle2 := hle.trans (by rw [decide_eq_false hlt2]; rfl : _ = true)
              clear HP HW BAD
              simp (maxSteps := 5000000) only [↓qpre, qpost, qfacts, qnorm, m0, m2, htd, hk1, m5, e1, hle2]
              refine ⟨by unfold inI64; omega, ⟨by omega, by omega⟩, hQ _ _ ?_⟩
              clear hQ hT hT' hM m0 m2 m5 p0 p1 p2 hle hle2
              go_wp2
              go_ret
              exact HO
    · have hkn : k = n := by omega
      subst hkn
      have HO := Lib.hid (hF.out.done HL.out hn100)
      go_wp2
      go_ret
      exact ⟨ret_bool HO.out.symm, hb⟩
end Go.Proofs.YtahlfafcjjkliaaGreatDoor
