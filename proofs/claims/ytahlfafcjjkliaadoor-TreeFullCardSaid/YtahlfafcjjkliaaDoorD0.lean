/- Walk: a number's digits. -/
import Derived.Test.YtahlfafcjjkliaaDoorM0
namespace Go.Proofs.YtahlfafcjjkliaaDoor
open Go.RowKit

theorem E78 : Elem Tryd.prog 78 5 1 1 := elem_of (by kernel_rfl)
def dg (n : Nat) : ByteArray := ⟨#[UInt8.ofNat (48 + n)]⟩
/-- 'string(b)': what is read. -/
theorem run_conv {A : Option Addr} {n c BB : Nat} {l : List UInt8} {w : World} (h : Rd w BB 1 A n c (cells8 l)) : (convert 78 9 (.slice A n c)).run Tryd.prog w = .ok (.string ⟨l.toArray⟩) w := by
  have hl : l.length = n := by have := h.len; rw [cells8_len] at this; omega
  rcases A with _ | a
  · have hn : n = 0 := by
      rcases Nat.eq_zero_or_pos n with h0 | h0
      · exact h0
      · obtain ⟨b, o, e, _⟩ := h.at_ h0
        cases e
    subst hn
    obtain rfl : l = [] := List.eq_nil_of_length_eq_zero hl
    exact run_convert_bytes_nil w 78 5 Tryd.underlying78 Tryd.underlying5 0 c 9 Tryd.underlying9
  · subst hl
    refine run_convert_bytes_back w 78 9 5 a c l Tryd.underlying78 Tryd.underlying5 Tryd.underlying9 fun j hj => ?_
    obtain ⟨b, o, e, _, hc⟩ := h.at_ (by omega)
    cases e
    rw [show (⟨b, o, none⟩ : Addr).add j = ⟨b, o + j, none⟩ from by unfold Addr.add; split <;> simp_all]
    exact hc j _ (by rw [cells8, List.getElem?_map, List.getElem?_eq_getElem hj]; rfl)
def decF : Nat → Nat → List UInt8
  | 0, _ => []
  | f + 1, v => if v < 10 then [UInt8.ofNat (48 + v)] else decF f (v / 10) ++ [UInt8.ofNat (48 + v % 10)]
theorem decF_any : ∀ (f g v : Nat), v < f → v < g → decF f v = decF g v
  | 0, _, _, h, _ => absurd h (Nat.not_lt_zero _)
  | _ + 1, 0, _, _, h => absurd h (Nat.not_lt_zero _)
  | f + 1, g + 1, v, h1, h2 => by
    unfold decF
    by_cases e : v < 10
    · rw [if_pos e, if_pos e]
    · rw [if_neg e, if_neg e, decF_any f g (v / 10) (by omega) (by omega)]
def decD (v : Nat) : List UInt8 := decF (v + 1) v
def dec (v : Nat) : ByteArray := ⟨(decD v).toArray⟩
theorem dec_small {v : Nat} (h : v < 10) : dec v = dg v := by rw [dec, decD, decF, if_pos h]; rfl
theorem dec_more {v : Nat} (h : ¬ v < 10) : dec v = dec (v / 10) ++ dg (v % 10) := by
  have e : decD v = decD (v / 10) ++ [UInt8.ofNat (48 + v % 10)] := by
    rw [decD, decF, if_neg h, decF_any v (v / 10 + 1) (v / 10) (by omega) (by omega), decD]
  rw [dec, e]
  simp [dec, dg]; rfl
theorem dec_len : ∀ (k v : Nat), v < 10 ^ k → 1 ≤ k → (dec v).size ≤ k
  | 0, v, _, h => by omega
  | k + 1, v, h, _ => by
    by_cases h1 : v < 10
    · rw [dec_small h1]; show 1 ≤ _; omega
    · rw [dec_more h1, ByteArray.size_append]
      have h2 : 1 ≤ k := by
        rcases Nat.eq_zero_or_pos k with h0 | h0
        · subst h0; omega
        · exact h0
      have := dec_len k (v / 10) (by rw [Nat.div_lt_iff_lt_mul (by omega)]; rw [Nat.pow_succ] at h; omega) h2
      show _ + 1 ≤ _
      omega
theorem conv_dg {w v : World} {g : Nat} {r : Nat} (hr : r < 10) (h : v.heap[g]? = some (.cells #[.int .u8 ((48 + r : Nat) : Int)] 5 (0, 0))) : (convert 78 9 (.slice (some ⟨g, 0, none⟩) 1 1)).run Tryd.prog v = .ok (.string (dg r)) v :=
  run_conv (l := [UInt8.ofNat (48 + r)]) (BB := v.heap.size) ⟨rfl, Nat.le_refl _, fun _ => ⟨_, _, rfl, (Array.getElem?_eq_some_iff.1 h).1, fun j u hu => by
    have hz' : (UInt8.ofNat (48 + r)).toNat = 48 + r := by rw [UInt8.toNat_ofNat']; exact Nat.mod_eq_of_lt (by omega)
    cases j with
    | zero => simp only [cells8, List.map_cons, List.getElem?_cons_zero, Option.some.injEq, hz'] at hu; subst hu; rw [World.cell?, h]; rfl
    | succ j => simp [cells8] at hu⟩⟩

set_option maxRecDepth 100000 in
theorem eff_conv {S : World → Prop} {a : Act} {w : World} {K : Act → World → Prop} {dst : Option Tmp} {ty : TypeId} {x : Operand} {q : Bool} {g : Option (Tmp × Bool)} {v r : Value}
    (hx : a.eval x = v) (hc : (convert 78 9 v).run Tryd.prog w = .ok r w) (hK : S w ∧ K (a.put dst r) w) : effq Tryd.prog S ⟨q, dst, .convert 78 9 x, ty, g⟩ a w K := by
  refine eff_val (fun p af g => ?_) hK
  unfold execOp
  simp only [hx, hc, Sem.run_bind, Sem.run_pure, Result.andThen_ok]

set_option maxRecDepth 100000 in
set_option maxHeartbeats 4000000 in
theorem dig_any : ∀ (f v : Nat), v < 10 ^ f → 1 ≤ f → f ≤ 18 → ∀ w : World, Calls Tryd.prog 29 #[.int .i64 (v : Int)] w fun e w' => e = .returned (.string (dec v)) ∧ Below w.heap.size w w' := by
  intro f
  induction f with
  | zero => intro v _ h; omega
  | succ f ih =>
    intro v hv _ hf w
    by_cases h : v < 10
    · have hc : (convert 78 9 (.slice (some ⟨w.heap.size, 0, none⟩) 1 1)).run Tryd.prog (w.alloc (.cells #[.int .u8 (48 + (v : Int))] 5)) = .ok (.string (dec v)) (w.alloc (.cells #[.int .u8 (48 + (v : Int))] 5)) := by
        have := conv_dg (w := w) (v := w.alloc (.cells #[.int .u8 ((48 + v : Nat) : Int)] 5)) (g := w.heap.size) h (heap_alloc_new _ _)
        rw [dec_small h]
        rwa [show ((48 + v : Nat) : Int) = 48 + (v : Int) from by omega] at this
      go_enter Tryd.func29, Tryd.ntmps29
      go_wp2
      go_ret
      exact ⟨rfl, (Below.refl _ w).alloc (Nat.le_refl _) _⟩
    · have hf1 : 1 ≤ f := by
        rcases Nat.eq_zero_or_pos f with h0 | h0
        · subst h0; omega
        · exact h0
      have hq : v / 10 < 10 ^ f := by rw [Nat.div_lt_iff_lt_mul (by omega)]; rw [Nat.pow_succ] at hv; omega
      have C := ih (v / 10) hq hf1 (by omega)
      rw [show ((v / 10 : Nat) : Int) = (v : Int) / 10 from by omega] at C
      have hl1 := dec_len f (v / 10) hq hf1
      have HD := Lib.hid (dec_more h)
      have hv18 : v < 1000000000000000000 := Nat.lt_of_lt_of_le hv (Nat.le_trans (Nat.pow_le_pow_right (by omega) hf) (by decide))
      have hu8 : IntKind.u8.wrap (48 + (v : Int) % 10) = 48 + (v : Int) % 10 := by
        have : (0:Int) ≤ 48 + (v : Int) % 10 ∧ 48 + (v : Int) % 10 < 256 := by omega
        simp [IntKind.wrap, IntKind.signed, IntKind.bits]; omega
      clear ih hv hq
      go_enter Tryd.func29, Tryd.ntmps29
      go_wp2
      refine wp_region_t (fun v' => Below w.heap.size w v') (.q 0 (.q 1 (.q 3 (.q 4 (.q 5 (.q 6 (.two 2 (.one 7 (.one 8 (.q 9 (.q 10 .leaf)))) 7 (.two 2 (.one 8 (.q 9 (.q 10 .leaf))) 8 (.one 2 (.q 9 (.q 10 .leaf)))))))))))  mixed (by kernel_rfl) (Below.refl _ w).drew ?_
      intro T M Q hT hT' hM hQ
      clear hM
      refine wt_gen ?_
      intro O hO
      have t0 := hO true 0
      have t1 := hO true 1
      have t3 := hO true 3
      have t4 := hO true 4
      have t5 := hO true 5
      have t6 := hO true 6
      have t9 := hO true 9
      have t10 := hO true 10
      have e2 := hO false 2
      have e7 := hO false 7
      have e8 := hO false 8
      simp only [qcmp] at t0 t1 t3 t4 t5 t6 t9 t10 e2 e7 e8
      clear hO
      simp (maxSteps := 5000000) only [↓wt_q, ↓wt_two, t0, t1, t3, t4, t5, t6, e2, e7, ↓qpre, qpost, qfacts, qnorm, hu8]
      have hdg : (dg (v % 10)).size = 1 := rfl
      have hbv : Below w.heap.size w w.drew := (Below.refl _ w).drew
      have hcd : ∀ (u : World) (g : Nat), u.heap[g]? = some (.cells #[.int .u8 (48 + (v : Int) % 10)] 5 (0, 0)) → (convert 78 9 (.slice (some ⟨g, 0, none⟩) 1 1)).run Tryd.prog u = .ok (.string (dg (v % 10))) u := fun u g hu => conv_dg (w := w) (by omega) (by rw [show ((48 + v % 10 : Nat) : Int) = 48 + (v : Int) % 10 from by omega]; exact hu)
      refine ⟨⟨by omega, by omega⟩, by unfold inI64; omega, ⟨by omega, by omega⟩, by unfold inI64; omega, ?_, ?_⟩
      · refine eff_call (by kernel_rfl) (C _) rfl rfl ?_
        rintro e v1 ⟨rfl, hb⟩
        have hbn := hbv.trans (hb.mono hbv.size)
        clear hbv; have hbv := hbn; clear hbn
        refine ⟨_, rfl, hT _ hbv, ?_⟩
        simp (maxSteps := 5000000) only [↓wt_one, e7, qpost, qnorm]
        refine eff_lit E78 rfl rfl ⟨hT _ (hbv.alloc hbv.size _), ?_⟩
        have hal := heap_alloc_new (v1) (.cells #[.int .u8 (48 + (v : Int) % 10)] 5)
        have hbn := hbv.alloc hbv.size (.cells #[.int .u8 (48 + (v : Int) % 10)] 5)
        clear hbv; have hbv := hbn; clear hbn
        simp (maxSteps := 5000000) only [↓wt_one, e8, qpost, qnorm]
        refine eff_conv rfl (hcd _ _ hal) ⟨hT _ hbv, ?_⟩
        simp (maxSteps := 5000000) only [↓wt_leaf, ↓wt_q, t9, t10, ↓qpre, qpost, qnorm]
        refine ⟨by rw [hdg]; omega, ?_⟩
        refine hQ _ _ ?_
        clear hQ hT hT' C t0 t1 t3 t4 t5 t6 t9 t10 e2 e7 e8
        rw [← HD.out]
        have HB := Lib.hid hbv
        clear hbv
        go_wp2
        go_ret
        exact ⟨rfl, HB.out⟩
      · refine eff_lit E78 rfl rfl ⟨hT _ (hbv.alloc hbv.size _), ?_⟩
        have hal := heap_alloc_new (w.drew) (.cells #[.int .u8 (48 + (v : Int) % 10)] 5)
        have hbn := hbv.alloc hbv.size (.cells #[.int .u8 (48 + (v : Int) % 10)] 5)
        clear hbv; have hbv := hbn; clear hbn
        simp (maxSteps := 5000000) only [↓wt_two, e2, e8, qpost, qnorm]
        refine ⟨?_, ?_⟩
        · refine eff_call (by kernel_rfl) (C _) rfl rfl ?_
          rintro e v1 ⟨rfl, hb⟩
          have hbn := hbv.trans (hb.mono hbv.size)
          clear hbv; have hbv := hbn; clear hbn
          refine ⟨_, rfl, hT _ hbv, ?_⟩
          simp (maxSteps := 5000000) only [↓wt_one, e8, qpost, qnorm]
          replace hal := (hb.block _ (Array.getElem?_eq_some_iff.1 hal).1).trans hal
          refine eff_conv rfl (hcd _ _ hal) ⟨hT _ hbv, ?_⟩
          simp (maxSteps := 5000000) only [↓wt_leaf, ↓wt_q, t9, t10, ↓qpre, qpost, qnorm]
          refine ⟨by rw [hdg]; omega, ?_⟩
          refine hQ _ _ ?_
          clear hQ hT hT' C t0 t1 t3 t4 t5 t6 t9 t10 e2 e7 e8
          rw [← HD.out]
          have HB := Lib.hid hbv
          clear hbv
          go_wp2
          go_ret
          exact ⟨rfl, HB.out⟩
        · refine eff_conv rfl (hcd _ _ hal) ⟨hT _ hbv, ?_⟩
          simp (maxSteps := 5000000) only [↓wt_one, e2, qpost, qnorm]
          refine eff_call (by kernel_rfl) (C _) rfl rfl ?_
          rintro e v1 ⟨rfl, hb⟩
          have hbn := hbv.trans (hb.mono hbv.size)
          clear hbv; have hbv := hbn; clear hbn
          refine ⟨_, rfl, hT _ hbv, ?_⟩
          simp (maxSteps := 5000000) only [↓wt_leaf, ↓wt_q, t9, t10, ↓qpre, qpost, qnorm]
          refine ⟨by rw [hdg]; omega, ?_⟩
          refine hQ _ _ ?_
          clear hQ hT hT' C t0 t1 t3 t4 t5 t6 t9 t10 e2 e7 e8
          rw [← HD.out]
          have HB := Lib.hid hbv
          clear hbv
          go_wp2
          go_ret
          exact ⟨rfl, HB.out⟩
end Go.Proofs.YtahlfafcjjkliaaDoor
