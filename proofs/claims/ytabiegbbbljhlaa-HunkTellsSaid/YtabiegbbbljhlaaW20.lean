/- Walk: HunkTells. -/
import Derived.Test.YtabiegbbbljhlaaW7
import Derived.Test.YtabiegbbbljhlaaW12
import Derived.Test.YtabiegbbbljhlaaW16
import Derived.Test.YtabiegbbbljhlaaW17
import Derived.Test.YtabiegbbbljhlaaW19
namespace Go.Proofs.Ytabiegbbbljhlaa
open Go.RowKit

theorem newLen_le' {l : List HV} {k : Nat} (h : ∀ u ∈ l, u.new.length ≤ k) : newLen l ≤ l.length * k := by
  induction l with
  | nil => simp [newLen]
  | cons x l ih =>
    have h1 := h x (by simp)
    have h2 := ih fun u hu => h u (by simp [hu])
    simp only [newLen, List.map_cons, List.sum_cons, List.length_cons, Nat.succ_mul] at *
    omega
theorem RdH.to' {w w' : World} {B B' b0 n c : Nat} {A : Option Addr} {hs : List HV} (h : RdH w B A n c hs) (hb : Below b0 w w') (h0 : B ≤ b0) (hB : b0 ≤ B') : RdH w' B' A n c hs :=
  ⟨(h.row.more h0).to hb hB, h.len, fun x hx => by obtain ⟨p1, p2, p3⟩ := h.parts x hx; exact ⟨(p1.more h0).to hb hB, (p2.more h0).to hb hB, p3⟩⟩
/-- The first part of what reads. -/
theorem Rd.head {w : World} {B sz n c k : Nat} {A : Option Addr} {xs ys : List Value} (h : Rd w B sz A (n + k) c (xs ++ ys)) (hx : xs.length = n * sz) : Rd w B sz A n c xs :=
  ⟨hx, by have := h.cap; omega, fun h0 => by
    obtain ⟨b, o, e, hb, hc⟩ := h.at_ (by omega)
    refine ⟨b, o, e, hb, fun j u hu => hc j u ?_⟩
    rw [List.getElem?_append_left (List.getElem?_eq_some_iff.1 hu).1]
    exact hu⟩
theorem resOf_len (a : List ByteArray) (hs : List HV) : (resOf a hs).length ≤ hs.length * a.length + newLen hs + a.length := by
  unfold resOf
  split
  · have := sts_len (a := a) hs ([], 0)
    have h2 : (sts a hs).1.length ≤ hs.length * a.length + newLen hs := by simpa [sts] using this
    rw [List.length_append, List.length_drop]
    omega
  · simp

set_option maxRecDepth 100000 in
set_option maxHeartbeats 8000000 in
theorem hunkTells_any {A B C : Option Addr} {n ca m cb nh ch : Nat} {es : List EV} {a : List ByteArray} {hs : List HV} (w : World)
    (hl : Rd w w.heap.size 2 A n ca (es.flatMap EV.cells)) (ha : Rd w w.heap.size 1 B m cb (a.map .string)) (hh : RdH w w.heap.size C nh ch hs) (hnh : nh ≤ 70368744177664) :
    Calls Try.prog 6 #[.slice A n ca, .slice B m cb, .slice C nh ch] w (BoolBelow true w) := by
  by_cases c1 : 200 < n
  · go_enter Try.func6, Try.ntmps6
    go_wp2_with (go_at_call 14; refine (awake7_any _).mono ?_; rintro e w1 ⟨rfl, hb1⟩)
    go_ret
    exact ⟨rfl, hb1⟩
  have d1 : decide (200 < n) = false := by simpa using c1
  by_cases c2 : 100 < m
  · go_enter Try.func6, Try.ntmps6
    go_wp2_with (go_at_call 14; refine (awake7_any _).mono ?_; rintro e w1 ⟨rfl, hb1⟩)
    go_ret
    exact ⟨rfl, hb1⟩
  have d2 : decide (100 < m) = false := by simpa using c2
  have HF := Lib.hid (few_any (w := w) (by simp only [maxLen]; omega) hh)
  cases hf : fewB hs
  · rw [hf] at HF
    go_enter Try.func6, Try.ntmps6
    go_wp2_with fail
    refine HF.out.mono ?_
    rintro e w1 ⟨rfl, rfl⟩
    go_wp2_with (go_at_call 14; refine (awake7_any _).mono ?_; rintro e w1 ⟨rfl, hb1⟩)
    go_ret
    exact ⟨rfl, hb1⟩
  rw [hf] at HF
  obtain ⟨f1, f2⟩ := few_says hf
  have HN := Lib.hid f2
  have hnh30 : nh ≤ 30 := by have := hh.len; omega
  have HM := Lib.hid (show a.length = m by have := ha.len; simpa using this)
  have HE := Lib.hid (rdE_len hl)
  have HNL := Lib.hid (show newLen hs ≤ 900 from by
    have e1 := newLen_le' fun u hu => (HN.out u hu).2
    have e3 : hs.length * 30 ≤ 30 * 30 := Nat.mul_le_mul_right _ f1
    omega)
  have HRL := Lib.hid (show (resOf a hs).length ≤ 4000 from by
    have e1 := resOf_len a hs
    have e2 := HNL.out
    have e3 : hs.length * a.length ≤ 30 * 100 := Nat.mul_le_mul f1 (by rw [HM.out]; omega)
    have e4 := HM.out
    omega)
  clear f1 f2 hf
  go_enter Try.func6, Try.ntmps6
  go_wp2_with fail
  refine HF.out.mono ?_
  rintro e w0 ⟨rfl, rfl⟩
  -- Own, Own
  go_wp2_with fail
  refine (ownS_any (x := ⟨#[55, 49]⟩) (by omega) ha).mono ?_
  rintro e w1 ⟨gI, rfl, hoI, hb1⟩
  have hs1 := hb1.size
  go_wp2_with fail
  refine (ownE_any (K := 71) (x := ⟨#[]⟩) (by omega) (hl.to hb1 hs1)).mono ?_
  rintro e w2 ⟨gO, rfl, hoO, hb2⟩
  have hs2 := hb2.size
  have HB2 := Lib.hid (hb1.trans (hb2.mono hs1))
  have hs02 : w0.heap.size ≤ w2.heap.size := by omega
  have HI := Lib.hid (show Rd w2 w2.heap.size 1 (some ⟨gI, 0, none⟩) (m + 3) (m + 3) _ from (Rd.of_own hoI (Nat.le_refl _)).to hb2 hs2)
  have HO := Lib.hid (show Rd w2 w2.heap.size 2 (some ⟨gO, 0, none⟩) (n + 3) (n + 3) _ from Rd.of_own hoO (Nat.le_refl _))
  have HA := Lib.hid (show Rd w2 w2.heap.size 1 B m cb _ from ha.to HB2.out hs02)
  have HL := Lib.hid (show Rd w2 w2.heap.size 2 A n ca _ from hl.to HB2.out hs02)
  have HH := Lib.hid (show RdH w2 w2.heap.size C nh ch hs from hh.to' HB2.out (Nat.le_refl _) hs02)
  have HI1 := Lib.hid (show Rd w2 w2.heap.size 1 (some ⟨gI, 0, none⟩) m (m + 3) (a.map .string) from HI.out.head (by rw [List.length_map, HM.out, Nat.mul_one]))
  have HO1 := Lib.hid (show Rd w2 w2.heap.size 2 (some ⟨gO, 0, none⟩) n (n + 3) (es.flatMap EV.cells) from HO.out.head hl.len)
  clear hoI hoO hb1 hb2 ha hl hh HF d1 d2
  -- Apply (in, h)
  go_wp2_with fail
  refine (apply_wide (by omega) HI1.out HH.out (by omega) (by have := HNL.out; omega)).mono ?_
  rintro e w3 ⟨A3, n3, k3, rfl, hr3, hb3⟩
  have H3 := Lib.hid hb3
  have hs3 := hb3.size
  have HR3 := Lib.hid hr3
  have hn3 : n3 ≤ 4000 := by have e1 := hr3.len; have e2 := HRL.out; simp only [List.length_map] at e1; omega
  clear hb3 hr3
  -- Apply (a, h)
  go_wp2_with fail
  refine (refapply_any (by omega) (HA.out.to H3.out hs3) (HH.out.to' H3.out (Nat.le_refl _) hs3) (by omega) (by have := HNL.out; omega)).mono ?_
  rintro e w4 ⟨A4, n4, k4, rfl, hr4, hb4⟩
  have H4 := Lib.hid (H3.out.trans (hb4.mono hs3))
  have hs4 := H4.out.size
  have HR4 := Lib.hid hr4
  have HR3b := Lib.hid (HR3.out.to hb4 hb4.size)
  have hn4 : n4 ≤ 4000 := by have e1 := hr4.len; have e2 := HRL.out; simp only [List.length_map] at e1; omega
  clear hb4 hr4 HR3 H3
  -- awake
  go_wp2_with fail
  refine (awake7_any _).mono ?_
  rintro e w5 ⟨rfl, hb5⟩
  have H5 := Lib.hid (H4.out.trans (hb5.mono hs4))
  have H45 := Lib.hid hb5
  have hs45 := hb5.size
  have hs5 := H5.out.size
  clear hb5
  -- Of (on)
  go_wp2_with fail
  refine (of_any (by omega) (HO1.out.to H5.out hs5)).mono ?_
  rintro e w6 ⟨A6, n6, k6, gs6, rfl, hr6, hp6, hb6⟩
  have H6 := Lib.hid (H5.out.trans (hb6.mono hs5))
  have H46 := Lib.hid (H45.out.trans (hb6.mono hs45))
  have hs46 := H46.out.size
  have hs6 := H6.out.size
  have HR6 := Lib.hid hr6
  have HP6 := Lib.hid hp6
  have hn6 : n6 ≤ 200 := by
    have e1 := (hst_few es).2
    rw [← hp6, List.length_map, hr6.len, HE.out] at e1
    omega
  clear hb6 hr6 hp6 H45 H5
  -- Hunks (l)
  go_wp2_with fail
  refine (hunks_any (by omega) (HL.out.to H6.out hs6)).mono ?_
  rintro e w7 ⟨A7, n7, k7, gs7, rfl, hr7, hp7, hb7⟩
  have H7 := Lib.hid (H6.out.trans (hb7.mono hs6))
  have H47 := Lib.hid (H46.out.trans (hb7.mono hs46))
  have hs47 := H47.out.size
  have hs7 := H7.out.size
  have HR6b := Lib.hid (HR6.out.to' hb7 (Nat.le_refl _) hb7.size)
  have HR7 := Lib.hid hr7
  have HP7 := Lib.hid hp7
  have hn7 : n7 ≤ 200 := by
    have e1 := (hst_few es).2
    rw [← hp7, List.length_map, hr7.len, HE.out] at e1
    omega
  clear hb7 hr7 hp7 HR6 H46 H6
  -- Same
  go_wp2_with fail
  refine (sameH_any (by omega) (by omega) (Nat.le_refl _) HR6b.out HR7.out).mono ?_
  rintro e w8 ⟨rfl, hb8⟩
  rw [HP6.out, HP7.out, decide_eq_true rfl]
  have H8 := Lib.hid (H7.out.trans (hb8.mono hs7))
  have H48 := Lib.hid (H47.out.trans (hb8.mono hs47))
  have hs48 := H48.out.size
  have hs8 := H8.out.size
  clear hb8 H47 H7
  -- Right (h), Right (h)
  go_wp2_with fail
  refine (right_any (by simp only [maxLen]; omega) (HH.out.to' H8.out (Nat.le_refl _) hs8)).mono ?_
  rintro e w9 ⟨rfl, hb9⟩
  have H9 := Lib.hid (H8.out.trans (hb9.mono hs8))
  have H49 := Lib.hid (H48.out.trans (hb9.mono hs48))
  have hs49 := H49.out.size
  have hs9 := H9.out.size
  clear hb9 H48 H8
  go_wp2_with fail
  refine (refright_any (by simp only [maxLen]; omega) (HH.out.to' H9.out (Nat.le_refl _) hs9)).mono ?_
  rintro e w10 ⟨rfl, hb10⟩
  have H10 := Lib.hid (H9.out.trans (hb10.mono hs9))
  have H410 := Lib.hid (H49.out.trans (hb10.mono hs49))
  have hs410 := H410.out.size
  have hs10 := H10.out.size
  clear hb10 H49 H9
  generalize right hs = rb
  -- Plain (x, y)
  go_wp2_with fail
  refine (plain_any (by simp only [maxLen]; omega) (by simp only [maxLen]; omega) (Nat.le_refl _) (HR3b.out.to H410.out hs410) (HR4.out.to H410.out hs410)).mono ?_
  rintro e w11 ⟨rfl, hb11⟩
  rw [decide_eq_true rfl]
  have H11 := Lib.hid (H10.out.trans (hb11.mono hs10))
  have hs11 := H11.out.size
  clear hb11 H410 H10
  generalize errOf a hs = er
  -- Invert (h), Invert (h)
  go_wp2_with fail
  refine (invert_any (by omega) (HH.out.to' H11.out (Nat.le_refl _) hs11) (fun u hu => by have := HN.out u hu; omega)).mono ?_
  rintro e w12 ⟨A12, n12, k12, gs12, rfl, hr12, hp12, hb12⟩
  have H12 := Lib.hid (H11.out.trans (hb12.mono hs11))
  have hs12 := H12.out.size
  have HR12 := Lib.hid hr12
  have HP12 := Lib.hid hp12
  have hil : (inv hs).length ≤ 30 := by
    unfold inv
    split
    · rw [invL_len, List.length_map]; have := HH.out.len; omega
    · simp
  have hn12 : n12 ≤ 30 := by
    rw [← hp12, List.length_map, hr12.len] at hil
    exact hil
  clear hb12 hr12 hp12 H11
  go_wp2_with fail
  refine (refinvert_any (by omega) (HH.out.to' H12.out (Nat.le_refl _) hs12) (fun u hu => by have := HN.out u hu; omega)).mono ?_
  rintro e w13 ⟨A13, n13, k13, gs13, rfl, hr13, hp13, hb13⟩
  have H13 := Lib.hid (H12.out.trans (hb13.mono hs12))
  have hs13 := H13.out.size
  have HR12b := Lib.hid (HR12.out.to' hb13 (Nat.le_refl _) hb13.size)
  have HR13 := Lib.hid hr13
  have HP13 := Lib.hid hp13
  have hn13 : n13 ≤ 30 := by
    rw [← hp13, List.length_map, hr13.len] at hil
    exact hil
  clear hb13 hr13 hp13 H12 HR12 hil
  -- Same
  go_wp2_with fail
  refine (sameH_any (by omega) (by omega) (Nat.le_refl _) HR12b.out HR13.out).mono ?_
  rintro e w14 ⟨rfl, hb14⟩
  rw [HP12.out, HP13.out, decide_eq_true rfl]
  have H14 := Lib.hid (H13.out.trans (hb14.mono hs13))
  have hs14 := H14.out.size
  clear hb14 H13
  -- Kept (in, a)
  go_wp2_with fail
  refine (keptS_any (BB := w14.heap.size) (by omega) (Nat.le_refl _) (HI.out.to H14.out hs14) (HA.out.to H14.out hs14)).mono ?_
  rintro e w15 ⟨rfl, hb15⟩
  have H15 := Lib.hid (H14.out.trans (hb15.mono hs14))
  have hs15 := H15.out.size
  clear hb15 H14
  -- Kept (on, l)
  go_wp2_with fail
  refine (keptE_any (BB := w15.heap.size) (by omega) (Nat.le_refl _) (HO.out.to H15.out hs15) (HL.out.to H15.out hs15)).mono ?_
  rintro e w16 ⟨rfl, hb16⟩
  have H16 := Lib.hid (H15.out.trans (hb16.mono hs15))
  go_wp2
  go_ret
  exact ⟨rfl, HB2.out.trans (H16.out.mono hs02)⟩
end Go.Proofs.Ytabiegbbbljhlaa
