/- Walks: the document's Right (trees). -/
import Derived.Test.YtahlfafcjjkliaaGreatDoorT7
namespace Go.Proofs.YtahlfafcjjkliaaGreatDoor
open Go.RowKit

/-- The document's word on one file. -/
def RFine (l : List FV) (k : Nat) (f : FV) : Prop := FileOk f ∧ (∀ g, 1 ≤ k → l[k - 1]? = some g → g.p < f.p) ∧ ∀ (j : Nat) (g : FV), j < k → l[j]? = some g → clashP g.p f.p = false
theorem TreeOk.rfine {l : List FV} (h : TreeOk l) {k : Nat} {f : FV} (hf : l[k]? = some f) : RFine l k f :=
  ⟨(h.fine hf).1, (h.fine hf).2.1, fun j g hj hg => h.pair hj hf hg⟩
theorem tree_rno {l : List FV} {k : Nat} {f : FV} (hf : l[k]? = some f) (h : ¬ RFine l k f) : treeOk l = false := by
  cases e : treeOk l with
  | false => rfl
  | true => exact absurd ((treeOk_iff.1 e).rfine hf) h
def RFineTo (l : List FV) (k : Nat) : Prop := ∀ j f, j < k → l[j]? = some f → RFine l j f
theorem RFineTo.done {l : List FV} {n : Nat} (h : RFineTo l n) (hl : l.length = n) (hn : n ≤ 100) : treeOk l = true := by
  have at_ : ∀ k f, l[k]? = some f → RFine l k f := fun k f hf => h k f (by have := (List.getElem?_eq_some_iff.1 hf).1; omega) hf
  refine treeOk_iff.2 (tree_pairs (by omega) (fun f hf => ?_) (fun i a b ha hb => (at_ (i + 1) b hb).2.1 a (by omega) ha) fun i j a b hij ha hb => (at_ i a ha).2.2 j b hij hb)
  obtain ⟨i, hi, rfl⟩ := List.getElem_of_mem hf
  exact (at_ i _ (List.getElem?_eq_getElem hi)).1
theorem RFineTo.next {l : List FV} {k : Nat} {f : FV} (h : RFineTo l k) (hf : l[k]? = some f) (h1 : RFine l k f) : RFineTo l (k + 1) := by
  intro j g hj hg
  by_cases e : j = k
  · subst e; rw [hf] at hg; injection hg with hg; subst hg; exact h1
  · exact h j g (by omega) hg
def ApartTo (l : List FV) (f : FV) (j : Nat) : Prop := ∀ (i : Nat) (g : FV), i < j → l[i]? = some g → clashP g.p f.p = false
theorem ApartTo.next {l : List FV} {j : Nat} {f g : FV} (h : ApartTo l f j) (hg : l[j]? = some g) (h1 : clashP g.p f.p = false) : ApartTo l f (j + 1) := by
  intro i x hi hx
  by_cases e : i = j
  · subst e; rw [hg] at hx; injection hx with hx; subst hx; exact h1
  · exact h i x (by omega) hx

set_option maxRecDepth 100000 in
set_option maxHeartbeats 8000000 in
theorem rright_any {A : Option Addr} {n c : Nat} {l : List FV} {w : World} (hn : n ≤ 17592186044416) (h : RdF w w.heap.size A n c l) :
    Calls Tryz.prog 35 #[.slice A n c] w (BoolBelow (treeOk l) w) := by
  have HL := Lib.hid h.len
  by_cases hbig : 100 < n
  · have HO := Lib.hid (tree_long (l := l) (by rw [HL.out]; exact hbig))
    go_enter Tryz.func35, Tryz.ntmps35
    go_wp2
    go_ret
    exact ⟨ret_bool HO.out.symm, Below.refl _ _⟩
  have hn100 : n ≤ 100 := by omega
  go_enter Tryz.func35, Tryz.ntmps35
  go_wp2
  go_loopw [3, 4] (fun i _ wr => ∃ k : Nat, k ≤ n ∧ i = .int .i64 k ∧ Below w.heap.size w wr ∧ Hid (RFineTo l k)) (fun i _ _ => n - (intOf i).toNat)
  case atStart => exact ⟨0, Nat.zero_le _, rfl, Below.refl _ _, fun j f hj => absurd hj (Nat.not_lt_zero _)⟩
  case round =>
    obtain ⟨k, hk, rfl, hb, hF⟩ := hrel
    by_cases hlt : k < n
    · obtain ⟨b0, o0, f, eA, hbb, hx, hfm, h0, h1, h2⟩ := h.get hlt
      cases eA
      have HX := Lib.hid hx; clear hx
      have hfit := h.fits f hfm
      have BAD : ∀ v : World, Below wr.heap.size wr v → ¬ RFine l k f → BoolBelow (treeOk l) w (.returned (.bool false)) v := fun v hv hf => ⟨ret_bool (tree_rno HX.out hf).symm, hb.trans (hv.mono hb.size)⟩
      have hz100 : pathOk f.p = true → f.path.size ≤ 100 := fun h => by
        simp only [pathOk, Bool.and_eq_true, decide_eq_true_eq] at h
        exact h.1.1.2
      go_wp2
      refine wp_region_q (fun w' => Below wr.heap.size wr w') (qe [5] 34) mixed (by kernel_rfl) (Below.refl _ _).drew ?_
      intro T M Q hT hT' hM hQ
      have m0 : M ⟨b0, o0 + k * 3, none⟩ = some (.string f.path) := hM _ _ fun w' hw => (hw.cell (p := ⟨b0, o0 + k * 3, none⟩) (by show b0 < _; have := hb.size; omega)).trans ((hb.cell (p := ⟨b0, o0 + k * 3, none⟩) (by show b0 < _; omega)).trans h0)
      have m2 : M ⟨b0, o0 + k * 3 + 2, none⟩ = some (.string f.text) := hM _ _ fun w' hw => (hw.cell (p := ⟨b0, o0 + k * 3 + 2, none⟩) (by show b0 < _; have := hb.size; omega)).trans ((hb.cell (p := ⟨b0, o0 + k * 3 + 2, none⟩) (by show b0 < _; omega)).trans h2)
      simp only [qcmp, Nat.reduceBEq]
      simp (maxSteps := 5000000) only [↓qpre, qpost, qfacts, qnorm, m0, m2]
      refine ⟨⟨by omega, by omega⟩, eff_call (by kernel_rfl) rpath_any rfl rfl ?_⟩
      rintro e v1 ⟨rfl, hv1⟩
      have hb3 : Below wr.heap.size wr v1 := (Below.refl _ _).drew.trans hv1
      refine ⟨_, rfl, hT _ hb3, ?_⟩
      have hp0 : pathOk f.path.data.toList = pathOk f.p := rfl
      rw [hp0]
      cases hp : pathOk f.p with
      | false =>
        have HO := BAD v1 hb3 (fun hf => by rw [hf.1.1] at hp; cases hp)
        clear BAD
        simp (maxSteps := 5000000) only [↓qpre, qpost, qfacts, qnorm, m0, m2]
        refine hQ _ _ ?_
        clear hQ hT hT' hM m0 m2
        go_wp2
        go_ret
        exact HO
      | true =>
        have hz := hz100 hp
        by_cases ht : 20000 < f.text.size
        · have htd : decide ((20000 : Int) < f.text.size) = true := decide_eq_true (by omega)
          have HO := BAD v1 hb3 (fun hf => by have := hf.1.2; omega)
          clear BAD
          simp (maxSteps := 5000000) only [↓qpre, qpost, qfacts, qnorm, m0, m2, htd]
          refine ⟨⟨by omega, by omega⟩, hQ _ _ ?_⟩
          clear hQ hT hT' hM m0 m2
          go_wp2
          go_ret
          exact HO
        · have htd : decide ((20000 : Int) < f.text.size) = false := decide_eq_false (by omega)
          by_cases hpv : ∀ g, 1 ≤ k → l[k - 1]? = some g → g.p < f.p
          case neg =>
            obtain ⟨b1, o1, g1, eA, hbb1, hx1, _, p0, p1, p2⟩ := h.get (k := k - 1) (by omega)
            cases eA
            have hk1' : 1 ≤ k := by
              refine Nat.one_le_iff_ne_zero.2 fun e => hpv fun g hg => by omega
            have hlt2 : ¬ g1.path.data.toList < f.path.data.toList := fun hc => hpv fun g _ hg => by rw [hx1] at hg; injection hg with hg; subst hg; exact hc
            have hk1 : decide ((0 : Int) < k) = true := decide_eq_true (by omega)
            have m5 : M ⟨b0, o0 + (k - 1) * 3, none⟩ = some (.string g1.path) := hM _ _ fun w' hw => (hw.cell (p := ⟨b0, o0 + (k - 1) * 3, none⟩) (by show b0 < _; have := hb.size; omega)).trans ((hb.cell (p := ⟨b0, o0 + (k - 1) * 3, none⟩) (by show b0 < _; omega)).trans p0)
            have e1 : ((k : Int) - 1).toNat = k - 1 := by omega
            have hle2 := (leq_str f.path g1.path).trans (by rw [decide_eq_false hlt2]; rfl : _ = true)
            have HO := BAD v1 hb3 (fun hf => hlt2 (hf.2.1 g1 (by omega) hx1))
            clear BAD
            simp (maxSteps := 5000000) only [↓qpre, qpost, qfacts, qnorm, m0, m2, htd, hk1, m5, e1, hle2]
            refine ⟨⟨by omega, by omega⟩, ⟨by omega, by omega⟩, by unfold inI64; omega, ⟨by omega, by omega⟩, hQ _ _ ?_⟩
            clear hQ hT hT' hM m0 m2 m5 p0 p1 p2 hle2
            go_wp2
            go_ret
            exact HO
          case pos =>
            have HP := Lib.hid hpv
            have hbW := hb.trans (hb3.mono hb.size)
            clear BAD
            by_cases hk0 : k = 0
            · have hk1 : decide ((0 : Int) < k) = false := decide_eq_false (by omega)
              simp (maxSteps := 5000000) only [↓qpre, qpost, qfacts, qnorm, m0, m2, htd, hk1]
              refine ⟨⟨by omega, by omega⟩, hQ _ _ ?_⟩
              clear hQ hT hT' hM m0 m2
              go_wp2
              go_loopw [4] (fun jv wr' => ∃ j : Nat, j ≤ k ∧ jv = .int .i64 j ∧ Below w.heap.size w wr' ∧ Hid (ApartTo l f j)) (fun jv _ => k - (intOf jv).toNat)
              case atStart => exact ⟨0, Nat.zero_le _, rfl, hbW, fun i g hi => absurd hi (Nat.not_lt_zero _)⟩
              case round =>
                obtain ⟨j, hj, rfl, hbr, hC⟩ := hrel
                by_cases hlt3 : j < k
                · exact absurd hlt3 (by omega)
                · obtain rfl : j = k := by omega
                  have HO := Lib.hid (RFineTo.next hF.out HX.out ⟨⟨hp, by omega⟩, HP.out, hC.out⟩)
                  go_wp2
                  go_roundw
                  case rel => exact ⟨j + 1, by omega, by go_num, hbr, HO.out⟩
                  case measure => simp [intOf]; omega
            · have hk1 : decide ((0 : Int) < k) = true := decide_eq_true (by omega)
              obtain ⟨b1, o1, g1, eA, hbb1, hx1, _, p0, p1, p2⟩ := h.get (k := k - 1) (by omega)
              cases eA
              have m5 : M ⟨b0, o0 + (k - 1) * 3, none⟩ = some (.string g1.path) := hM _ _ fun w' hw => (hw.cell (p := ⟨b0, o0 + (k - 1) * 3, none⟩) (by show b0 < _; have := hb.size; omega)).trans ((hb.cell (p := ⟨b0, o0 + (k - 1) * 3, none⟩) (by show b0 < _; omega)).trans p0)
              have e1 : ((k : Int) - 1).toNat = k - 1 := by omega
              have hlt2 : g1.path.data.toList < f.path.data.toList := HP.out g1 (by omega) hx1
              have hle2 := (leq_str f.path g1.path).trans (by rw [decide_eq_true hlt2]; rfl : _ = false)
              simp (maxSteps := 5000000) only [↓qpre, qpost, qfacts, qnorm, m0, m2, htd, hk1, m5, e1, hle2]
              refine ⟨⟨by omega, by omega⟩, ⟨by omega, by omega⟩, by unfold inI64; omega, ⟨by omega, by omega⟩, hQ _ _ ?_⟩
              clear m5 p0 p1 p2 hle2 hx1
              clear hQ hT hT' hM m0 m2
              go_wp2
              go_loopw [4] (fun jv wr' => ∃ j : Nat, j ≤ k ∧ jv = .int .i64 j ∧ Below w.heap.size w wr' ∧ Hid (ApartTo l f j)) (fun jv _ => k - (intOf jv).toNat)
              case atStart => exact ⟨0, Nat.zero_le _, rfl, hbW, fun i g hi => absurd hi (Nat.not_lt_zero _)⟩
              case round =>
                obtain ⟨j, hj, rfl, hbr, hC⟩ := hrel
                by_cases hlt3 : j < k
                · obtain ⟨b1, o1, g1, eA, _, hx1, hm1, q0, q1, q2⟩ := h.get (k := j) (by omega)
                  cases eA
                  have HX1 := Lib.hid hx1
                  clear hx1
                  have hfit1 := h.fits g1 hm1
                  have C := fun (v : World) => rclash_any (w := v) (p := g1.path) (d := f.path) (by unfold maxLen; omega) (by unfold maxLen; omega)
                  go_wp2
                  refine wp_region_q (fun w' => Below w.heap.size w w') (qe [10] 11) mixed (by kernel_rfl) hbr.drew ?_
                  intro T M Q hT hT' hM hQ
                  have m0 : M ⟨b0, o0 + k * 3, none⟩ = some (.string f.path) := hM _ _ fun w' hw => (hw.cell (p := ⟨b0, o0 + k * 3, none⟩) (by show b0 < _; omega)).trans h0
                  have m1 : M ⟨b0, o0 + j * 3, none⟩ = some (.string g1.path) := hM _ _ fun w' hw => (hw.cell (p := ⟨b0, o0 + j * 3, none⟩) (by show b0 < _; omega)).trans q0
                  simp only [qcmp, Nat.reduceBEq]
                  simp (maxSteps := 5000000) only [↓qpre, qpost, qfacts, qnorm, m0, m1]
                  refine ⟨⟨by omega, by omega⟩, ⟨by omega, by omega⟩, eff_call (by kernel_rfl) (C _) rfl rfl ?_⟩
                  rintro e w' ⟨rfl, rfl⟩
                  refine ⟨_, rfl, hT _ hbr.drew, ?_⟩
                  simp (maxSteps := 5000000) only [↓qpre, qpost, qnorm]
                  refine hQ _ _ ?_
                  have hbd := hbr.drew
                  clear hQ hT hT' hM m0 m1 C q0 q1 q2
                  cases hc : clashP g1.path.data.toList f.path.data.toList with
                  | true =>
                    have HO := Lib.hid (tree_rno HX.out fun hf => by have := hf.2.2 j g1 hlt3 HX1.out; rw [show clashP g1.p f.p = true from hc] at this; cases this)
                    clear hc
                    go_wp2
                    go_ret
                    exact ⟨ret_bool HO.out.symm, hbd⟩
                  | false =>
                    have HO := Lib.hid (hC.out.next HX1.out hc)
                    clear hc
                    go_wp2
                    go_roundw
                    case rel => exact ⟨j + 1, by omega, by go_num, hbd, HO.out⟩
                    case measure => simp [intOf]; omega
                · obtain rfl : j = k := by omega
                  have HO := Lib.hid (RFineTo.next hF.out HX.out ⟨⟨hp, by omega⟩, HP.out, hC.out⟩)
                  go_wp2
                  go_roundw
                  case rel => exact ⟨j + 1, by omega, by go_num, hbr, HO.out⟩
                  case measure => simp [intOf]; omega
    · have hkn : k = n := by omega
      subst hkn
      have HO := Lib.hid (hF.out.done HL.out hn100)
      go_wp2
      go_ret
      exact ⟨ret_bool HO.out.symm, hb⟩
end Go.Proofs.YtahlfafcjjkliaaGreatDoor
