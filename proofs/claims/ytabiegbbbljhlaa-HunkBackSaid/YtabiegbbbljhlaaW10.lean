/- Walk: HunkMany. -/
import Derived.Test.YtabiegbbbljhlaaW6
import Derived.Test.YtabiegbbbljhlaaSay
import Derived.Test.YtabiegbbbljhlaaW9
namespace Go.Proofs.Ytabiegbbbljhlaa
open Go.RowKit

theorem newLen_le {l : List HV} {k : Nat} (h : ∀ u ∈ l, u.new.length ≤ k) : newLen l ≤ l.length * k := by
  induction l with
  | nil => simp [newLen]
  | cons x l ih =>
    have h1 := h x (by simp)
    have h2 := ih fun u hu => h u (by simp [hu])
    simp only [newLen, List.map_cons, List.sum_cons, List.length_cons, Nat.succ_mul] at *
    omega
/-- A cut of one hunk. -/
theorem RdH.one {w : World} {B n c k : Nat} {A : Option Addr} {hs : List HV} {u : HV} (h : RdH w B A n c hs) (hu : hs[k]? = some u) (hk : k < n) :
    RdH w B (if c = k then A else A.map (·.add (k * 3))) 1 (c - k) [u] := by
  have h1 := h.row.cut (l := k) (k := k + 1) (by omega) (by omega)
  rw [show k + 1 - k = 1 by omega] at h1
  refine ⟨?_, rfl, fun x hx => h.parts x (by obtain rfl := List.mem_singleton.1 hx; exact List.mem_of_getElem? hu)⟩
  have : ((hs.flatMap HV.cells).take ((k + 1) * 3)).drop (k * 3) = [u].flatMap HV.cells := by
    obtain ⟨c0, c1, c2⟩ := cells3 hu
    apply List.ext_getElem?
    intro i
    rw [List.getElem?_drop, List.getElem?_take]
    rcases Nat.lt_or_ge i 3 with hi | hi
    · rw [if_pos (by omega)]
      obtain rfl | rfl | rfl : i = 0 ∨ i = 1 ∨ i = 2 := by omega
      · rw [Nat.add_zero, c0]; rfl
      · rw [c1]; rfl
      · rw [c2]; rfl
    · rw [if_neg (by omega), List.getElem?_eq_none (by simp [HV.cells]; omega)]
  rw [this] at h1
  exact h1

theorem RdH.to {w w' : World} {B B' b0 n c : Nat} {A : Option Addr} {hs : List HV} (h : RdH w B A n c hs) (hb : Below b0 w w') (h0 : B ≤ b0) (hB : b0 ≤ B') : RdH w' B' A n c hs :=
  ⟨(h.row.more h0).to hb hB, h.len, fun x hx => by obtain ⟨p1, p2, p3⟩ := h.parts x hx; exact ⟨(p1.more h0).to hb hB, (p2.more h0).to hb hB, p3⟩⟩
theorem add_none' (b o k : Nat) : (⟨b, o, none⟩ : Addr).add k = ⟨b, o + k, none⟩ := by unfold Addr.add; split <;> simp_all
theorem Back.len {a b y : List ByteArray} {hs : List HV} {k : Nat} (h : Back a hs k b y) (hS : Says a b (hs.map HV.pure)) : y.length ≤ a.length + b.length := by
  have h1 := congrArg List.length h.all
  rw [List.length_append, List.length_drop] at h1
  have h2 : (sts a (hs.take k)).2 ≤ a.length := by
    rw [sts_pure]
    refine psts_end fun x hx => ?_
    obtain ⟨u, hu, rfl⟩ := List.mem_map.1 hx
    exact (hS.fit u.pure (List.mem_map.2 ⟨u, List.mem_of_mem_take hu, rfl⟩)).le
  omega
set_option maxRecDepth 100000 in
set_option maxHeartbeats 8000000 in
theorem hunkMany_any {A B : Option Addr} {n ca m cb : Nat} {a b : List ByteArray} (w : World)
    (ha : Rd w w.heap.size 1 A n ca (a.map .string)) (hb : Rd w w.heap.size 1 B m cb (b.map .string)) :
    Calls Try.prog 4 #[.slice A n ca, .slice B m cb] w (BoolBelow true w) := by
  by_cases c1 : 60 < n
  · go_enter Try.func4, Try.ntmps4
    go_wp2_with (go_at_call 14; refine (awake7_any _).mono ?_; rintro e w1 ⟨rfl, hb1⟩)
    go_ret
    exact ⟨rfl, hb1⟩
  have d1 : decide (60 < n) = false := by simpa using c1
  by_cases c2 : 60 < m
  · go_enter Try.func4, Try.ntmps4
    go_wp2_with (go_at_call 14; refine (awake7_any _).mono ?_; rintro e w1 ⟨rfl, hb1⟩)
    go_ret
    exact ⟨rfl, hb1⟩
  have d2 : decide (60 < m) = false := by simpa using c2
  have HA := Lib.hid (show a.length = n by have := ha.len; simpa using this)
  have HB := Lib.hid (show b.length = m by have := hb.len; simpa using this)
  go_enter Try.func4, Try.ntmps4
  go_wp2_with fail
  refine (script_any (by omega) (by omega) ha hb).mono ?_
  rintro e w1 ⟨A1, n1, k1, rfl, hr1, hb1⟩
  have hn1 : n1 ≤ 120 := by
    have e1 := rdE_len hr1
    have e2 := script_len a b
    have e3 := HA.out
    have e4 := HB.out
    omega
  go_wp2_with fail
  refine (of_any (by omega) hr1).mono ?_
  rintro e w2 ⟨A2, n2, k2, hs, rfl, hr2, hp2, hb2⟩
  have hs1 := hb1.size
  have hs2 := hb2.size
  have HB2 := Lib.hid (hb1.trans (hb2.mono hs1))
  have hn2 : n2 ≤ 120 := by
    have e1 := (hst_few (script a b)).2
    rw [← hp2, List.length_map, hr2.len, rdE_len hr1] at e1
    omega
  have HN := Lib.hid (show ∀ u ∈ hs, u.new.length ≤ 120 from fun u hu => by
    have e1 := ((hst_few (script a b)).1 u.pure (by rw [← hp2]; exact List.mem_map.2 ⟨u, hu, rfl⟩)).2.1
    rw [rdE_len hr1] at e1
    have e2 : u.new.length ≤ n1 := e1
    omega)
  have HS := Lib.hid (show Says a b (hs.map HV.pure) from by rw [hp2]; exact hunks_say (script_says a b).2.2 (script_says a b).1 (script_says a b).2.1)
  have HL := Lib.hid (show a.length ≤ 2147483647 by rw [HA.out]; omega)
  clear hb1 hb2 hr1 hp2
  go_wp2_with fail
  have hnl : newLen hs ≤ 1048576 := by
    have e1 := newLen_le HN.out
    have e2 := hr2.len
    have e3 : hs.length * 120 ≤ 120 * 120 := Nat.mul_le_mul_right _ (by omega)
    omega
  refine (apply_wide (by omega) (ha.to HB2.out (by omega)) hr2 (by omega) hnl).mono ?_
  rintro e w3 ⟨A3, n3, k3, rfl, hr3, hb3⟩
  rw [(HS.out.apply HL.out).1]
  rw [(HS.out.apply HL.out).2] at hr3
  have hs3 := hb3.size
  have hn3 : n3 = m := by have e1 := hr3.len; have e2 := HB.out; simp only [List.length_map] at e1; omega
  subst hn3
  have HR3 := Lib.hid hr3
  clear hr3
  have HB3 := Lib.hid (HB2.out.trans (hb3.mono (by omega)))
  have HR2 := Lib.hid (show RdH w3 w2.heap.size A2 n2 k2 hs from ⟨hr2.row.below hb3, hr2.len, fun x hx => by obtain ⟨p1, p2, p3⟩ := hr2.parts x hx; exact ⟨p1.below hb3, p2.below hb3, p3⟩⟩)
  have HN2 := Lib.hid hr2.len
  clear hr2 HB2 hb3 hnl
  go_wp2_with (at_builtin; refine wpl_append rfl (.const (.slice none 0 0)) (.tmp 31) 22 rfl E22 (base := w3.heap.size) rfl rfl (World.ownsRow_nil _ _ _ _) (ha.below HB3.out) (oneCell_str _) (by simp only [maxLen]; omega) (by omega) (Nat.le_refl _) ?_; intro v4 w4 ho4 hg4 hat4)
  have hb34 : Below w3.heap.size w3 w4 := (Below.refl _ _).grown hg4 (Nat.le_refl _) (fun g hg => by cases hg)
  obtain ⟨A4, k4, rfl, hk4⟩ := ownsRow_cap ho4
  rw [Nat.zero_add, List.nil_append] at ho4
  rw [Nat.zero_add] at hk4
  have HR4 := Lib.hid (Rd.of_own ho4 hk4)
  clear hg4 hat4 ho4 hk4
  simp only [Nat.zero_add]
  go_loopw [8, 9] (fun y iv wr => ∃ (k : Nat) (z : Int) (A' : Option Addr) (n' c' : Nat) (l : List ByteArray), y = .slice A' n' c' ∧ iv = .int .i64 z ∧ z = (k : Int) - 1 ∧ k ≤ n2 ∧ Below w3.heap.size w3 wr ∧ Hid (Rd wr wr.heap.size 1 A' n' c' (l.map .string)) ∧ Hid (Back a hs k b l))
      (fun _ i _ => (intOf i + 1).toNat)
  case atStart =>
    exact ⟨n2, _, A4, n, k4, a, rfl, rfl, by omega, Nat.le_refl _, hb34, HR4, by have := HS.out.start; rw [HN2.out] at this; exact this⟩
  case round =>
    clear HR4
    obtain ⟨k, z, A', n', c', l, rfl, rfl, hz, hk, hbw, HR, HK⟩ := hrel
    have hws := hbw.size
    have HW := Lib.hid hbw; clear hbw
    rcases k with - | k
    · have HY := Lib.hid HK.out.done
      obtain rfl : z = -1 := by omega
      have HK0 := HK
      clear hz HK
      have hlen : n' ≤ 1048576 := by
        have e1 := HK0.out.len HS.out
        have e2 := HR.out.len
        have e3 := HA.out
        have e4 := HB.out
        simp only [List.length_map] at e2
        omega
      rw [HY.out] at HR
      go_wp2_with (go_at_call 14; refine (awake7_any _).mono ?_; rintro e w5 ⟨rfl, hb5⟩)
      have hs5 := hb5.size
      have HW5 := Lib.hid (HW.out.trans (hb5.mono hws))
      have HR5 := Lib.hid (HR.out.below hb5)
      clear hb5
      have hws5 := HW5.out.size
      go_wp2_with fail
      refine (plain_any (by simp only [maxLen]; omega) (by simp only [maxLen]; omega) hs5 (HR3.out.to HW5.out (by omega)) HR5.out).mono ?_
      rintro e w6 ⟨rfl, hb6⟩
      rw [decide_eq_true rfl]
      have hs6 := hb6.size
      have HW6 := Lib.hid (HW5.out.trans (hb6.mono hws5))
      go_wp2_with fail
      refine (plain_any (by simp only [maxLen]; omega) (by simp only [maxLen]; omega) (Nat.le_refl _) (HR3.out.to HW6.out (by omega)) (hb.to (HB3.out.trans (HW6.out.mono (by omega))) (by omega))).mono ?_
      rintro e w7 ⟨rfl, hb7⟩
      rw [decide_eq_true rfl]
      have HW7 := Lib.hid (HW6.out.trans (hb7.mono (by omega)))
      go_wp2
      go_ret
      exact ⟨rfl, HB3.out.trans (HW7.out.mono (by omega))⟩
    · obtain rfl : z = k := by omega
      clear hz
      obtain ⟨bb, oo, u, rfl, hbb, hu, hmem, hx0, hx1, hx2⟩ := HR2.out.get (k := k) (by omega)
      clear hx0 hx1 hx2
      have hcap := HR2.out.row.cap
      have hlen : n' ≤ 1048576 := by
        have e1 := HK.out.len HS.out
        have e2 := HR.out.len
        have e3 := HA.out
        have e4 := HB.out
        simp only [List.length_map] at e2
        omega
      obtain ⟨e0, hk'⟩ := HK.out.step HS.out HL.out hu
      have HK' := Lib.hid hk'
      have hnew : newLen [u] ≤ 1048576 := by
        have := HN.out u hmem
        simp only [newLen, List.map_cons, List.map_nil, List.sum_cons, List.sum_nil]; omega
      have HO := HR2.out.one hu (by omega)
      rw [if_neg (by omega)] at HO
      simp only [Option.map_some, add_none'] at HO
      have HO2 := Lib.hid (HO.to HW.out (by omega) hws)
      clear hk' HO HK
      go_wp2_with fail
      refine (apply_wide hlen HR.out HO2.out (by omega) hnew).mono ?_
      rintro e w5 ⟨A5, n5, c5, rfl, hr5, hb5⟩
      rw [e0]
      have HR5 := Lib.hid hr5
      have HW5 := Lib.hid (HW.out.trans (hb5.mono hws))
      clear hr5 hb5 e0
      go_wp2
      go_roundw
      case rel => exact ⟨k, _, A5, n5, c5, _, rfl, rfl, by omega, by omega, HW5.out, HR5, HK'⟩
      case measure => simp [intOf]
end Go.Proofs.Ytabiegbbbljhlaa
